/- Contracts of Go functions that the statement reaches, proved by walking their text, and plain laws over them (texts put together). -/
import Derived.OrdersHeld
import Derived.Tactics
import Derived.Deep.RegionHeld3
import Derived.Test.YthpkoidlpfllaaaDoorKS1
import Derived.Test.YthpkoidlpfllaaaDoorKS2
set_option linter.unusedVariables false
set_option linter.unusedSimpArgs false
namespace Go.Proofs.YthpkoidlpfllaaaDoor
open Go.RowKit
open Go
def wpAnyT (P : Program) (md : Region.Mode) (ops : Array Oper) (Q : Exit → Act → World → Prop) (S : World → Prop) (L : Nat) : Nat → Array Bool → Act → World → Prop
 | 0, listed, a, w => Region.ready md ops listed = [] ∧ Q .normal a w
 | fuel + 1, listed, a, w =>
  (Region.ready md ops listed = [] → Q .normal a w) ∧
  ∀ i ∈ Region.ready md ops listed, wpOp P ops Q i (fun a' w' => (i ≠ L → S w') ∧ wpAnyT P md ops Q S L fuel (listed.setIfInBounds i true) a' w') a w
section
variable {P : Program} {ops : Array Oper} {Q : Exit → Act → World → Prop} {md : Region.Mode} {S : World → Prop} {L : Nat}
theorem wpAny_of_T : ∀ (fuel : Nat) (listed : Array Bool) (a : Act) (w : World), wpAnyT P md ops Q S L fuel listed a w → wpAny P md ops Q fuel listed a w
 | 0, _, _, _, h => h
 | fuel + 1, _, _, _, h => ⟨h.1, fun i hi => wpOp_mono (fun a' w' h' => wpAny_of_T fuel _ a' w' h'.2) (h.2 i hi)⟩
theorem wpAnyT_first {i : Nat} {oi : Oper} {v : Value} (hi : ops[i]? = some oi) (hsel : ∀ (j : Nat) (o : Oper) cs b, ops[j]? = some o → o.op ≠ .select cs b)
  (hQ : ∀ c a w, Q (.panic c) (a.put oi.dst v) w → Q (.panic c) a w) (hwait : ∀ oL, ops[L]? = some oL → i ≠ L ∧ ∃ e ∈ oL.after, Region.binds md e = true ∧ e.on = i) :
  ∀ (fuel : Nat) (listed : Array Bool) (a : Act) (w : World),
   (∀ j oj, ops[j]? = some oj → j ≠ i → listed.getD j true = false → (∀ e ∈ oj.after, Region.binds md e = true → e.on ≠ i) → oi.apart ops oj = true) →
   i ∈ Region.ready md ops listed → YieldsIf P ops S oi v a → S w →
   wpAnyT P md ops Q S L fuel (listed.setIfInBounds i true) (a.put oi.dst v) w → wpAnyT P md ops Q S L (fuel + 1) listed a w := by
 intro fuel
 induction fuel with
 | zero =>
  intro listed a w _ hr hy hS H
  refine ⟨fun h => (by rw [h] at hr; cases hr), fun j hj => ?_⟩
  by_cases hji : j = i
  ·subst hji; exact hy.wpOp hi hS ⟨fun _ => hS, H⟩
  ·have := ready_mono hj hji
   rw [H.1] at this
   cases this
 | succ fuel ih =>
  intro listed a w hfree hr hy hS H
  refine ⟨fun h => (by rw [h] at hr; cases hr), fun j hj => ?_⟩
  by_cases hji : j = i
  ·subst hji; exact hy.wpOp hi hS ⟨fun _ => hS, H⟩
  ·have h1 := H.2 j (ready_mono hj hji)
   obtain ⟨hjun, oj, hoj, hall⟩ := mem_ready.1 hj
   have hnot : ∀ e ∈ oj.after, Region.binds md e = true → e.on ≠ i := fun e he hb heq => by
    have h1 := hall e he hb
    have h0 := (mem_ready.1 hr).1
    rw [heq] at h1
    rcases Nat.lt_or_ge i listed.size with h' | h'
    ·simp [h'] at h0 h1; rw [h0] at h1; cases h1
    ·simp [Array.getElem?_eq_none h'] at h1
   have hjL : j ≠ L := by
    rintro rfl
    obtain ⟨_, e, he, hb, hon⟩ := hwait oj hoj
    exact hnot e he hb hon
   have h2 := wpOp_putIf hoj (hfree j oj hoj hji hjun hnot) (fun cs b => hsel i oi cs b hi) (fun cs b => hsel j oj cs b hoj) hQ hy h1
   have hfree' : ∀ k ok, ops[k]? = some ok → k ≠ i → (listed.setIfInBounds j true).getD k true = false →
     (∀ e ∈ ok.after, Region.binds md e = true → e.on ≠ i) → oi.apart ops ok = true := fun k ok hk hki hun hno => by
    refine hfree k ok hk hki ?_ hno
    by_cases hjk : j = k
    ·subst hjk; exact hjun
    ·rw [getD_set_ne true hjk] at hun; exact hun
   refine wpOp_mono (fun a' w' h3 => ⟨h3.2.1, ih (listed.setIfInBounds j true) a' w' hfree' (ready_mono hr (Ne.symm hji)) h3.1 (h3.2.1 hjL) ?_⟩) h2
   rw [Array.setIfInBounds_comm _ _ hji]
   exact h3.2.2
def pureTo (P : Program) (ops : Array Oper) (S : World → Prop) : List Nat → Act → Act → Prop
 | [], a, A => a = A
 | i :: p, a, A => ∃ o v, ops[i]? = some o ∧ YieldsIf P ops S o v a ∧ pureTo P ops S p (a.put o.dst v) A
def chainQ (Q : Exit → Act → World → Prop) (K : Act → World → Prop) : Exit → Act → World → Prop
 | .normal, a, w => K a w
 | e, a, w => Q e a w
def waitsOk (md : Region.Mode) (ops : Array Oper) (L i : Nat) : Bool := match ops[L]? with | none => true | some oL => (i != L) && (oL.after.any fun e => Region.binds md e && e.on == i)
def takesOk (md : Region.Mode) (ops : Array Oper) (L : Nat) : List Nat → Array Bool → Bool
 | [], _ => true
 | i :: p, listed => Region.free md ops listed i && (Region.ready md ops listed).contains i && waitsOk md ops L i && takesOk md ops L p (listed.setIfInBounds i true)
def marked (p : List Nat) (listed : Array Bool) : Array Bool := p.foldl (fun l i => l.setIfInBounds i true) listed
def chainLen : List (List Nat × Nat) → Nat
 | [] => 0
 | (p, _) :: rest => p.length + 1 + chainLen rest
theorem takes_sound (hsel : ∀ (j : Nat) (o : Oper) cs b, ops[j]? = some o → o.op ≠ .select cs b) (hQ : ∀ c a d v w, Q (.panic c) (Act.put a d v) w → Q (.panic c) a w) :
  ∀ (p : List Nat) (listed : Array Bool) (a A : Act) (w : World) (fuel : Nat), takesOk md ops L p listed = true → pureTo P ops S p a A → S w → wpAnyT P md ops Q S L fuel (marked p listed) A w → wpAnyT P md ops Q S L (p.length + fuel) listed a w
 | [], listed, a, A, w, fuel, _, hp, _, h => by
  have e : a = A := hp
  subst e
  simpa [marked] using h
 | i :: p, listed, a, A, w, fuel, hc, ⟨o, v, hi, hy, hp⟩, hS, h => by
  simp only [takesOk, Bool.and_eq_true] at hc
  obtain ⟨⟨⟨hf, hr⟩, hw⟩, hc⟩ := hc
  have := takes_sound hsel hQ p (listed.setIfInBounds i true) (a.put o.dst v) A w fuel hc hp hS h
  rw [List.length_cons, show p.length + 1 + fuel = p.length + fuel + 1 by omega]
  refine wpAnyT_first hi hsel (fun c a w => hQ c a _ _ w) ?_ _ _ _ _ (Region.free_spec hi hf) (by simpa using hr) hy hS this
  intro oL hoL
  simp only [waitsOk, hoL, Bool.and_eq_true] at hw
  obtain ⟨e, he, hb⟩ := Array.any_eq_true'.1 hw.2
  simp only [Bool.and_eq_true, beq_iff_eq] at hb
  exact ⟨by simpa using hw.1, e, he, hb.1, hb.2⟩
theorem wp_of_chain {o : Oper} {K : Act → World → Prop} {a : Act} {w : World} (h : o.wp P a w (wpList P ops (chainQ Q K) []) (chainQ Q K)) : o.wp P a w K Q := by
 unfold Oper.wp at *
 generalize (execOp a.eval o).run P w = r at *
 cases r with
 | ok n w' =>
  cases n <;> simp only [Oper.upon] at h ⊢
  case value v => exact h
  case skip => exact h
  case defer d => exact h
  case enter f args =>
   refine Calls.mono h fun e w'' he => ?_
   cases e with
   | returned v => exact he
   | panicked c => exact he
   | outgrown => exact he
  case row row args => exact Rows.mono h fun v w'' he => he
 | halt x w' =>
  cases x <;> simp only [Oper.upon] at h ⊢
  case panic v => exact h
theorem wpOp_of_chain {o : Oper} {c : Nat} {K : Act → World → Prop} {a : Act} {w : World} (hc : ops[c]? = some o) (h : wpList P ops (chainQ Q K) [o] a w) : wpOp P ops Q c K a w := by
 unfold wpList at h
 unfold wpOp
 simp only [hc]
 split at h
 ·rename_i hw
  rw [if_pos hw]
  rcases h with h | h
  ·exact .inl (wp_of_chain h)
  ·exact .inr h
 ·rename_i hw
  rw [if_neg hw]
  exact h
theorem wpAnyT_done {listed : Array Bool} {a : Act} {w : World} (hr : Region.ready md ops listed = []) (h : Q .normal a w) : ∀ fuel, wpAnyT P md ops Q S L fuel listed a w
 | 0 => ⟨hr, h⟩
 | _ + 1 => ⟨fun _ => h, by rw [hr]; simp⟩
theorem wpAnyT_only {c : Nat} {fuel : Nat} {listed : Array Bool} {a : Act} {w : World} (hr : Region.ready md ops listed = [c])
  (h : wpOp P ops Q c (fun a' w' => (c ≠ L → S w') ∧ wpAnyT P md ops Q S L fuel (listed.setIfInBounds c true) a' w') a w) : wpAnyT P md ops Q S L (fuel + 1) listed a w :=
 ⟨fun h0 => (by rw [hr] at h0; cases h0), fun i hi => by
  rw [hr] at hi
  simp at hi
  subst hi
  exact h⟩
def chainS (P : Program) (ops : Array Oper) (Q : Exit → Act → World → Prop) (S : World → Prop) (tl : List Nat) : List (List Nat × Nat) → Act → World → Prop
 | [], a, w => ∃ A, pureTo P ops S tl a A ∧ Q .normal A w
 | (p, c) :: rest, a, w => ∃ A o, pureTo P ops S p a A ∧ ops[c]? = some o ∧ wpList P ops (chainQ Q fun a' w' => S w' ∧ chainS P ops Q S tl rest a' w') [o] A w
def chainSOk (md : Region.Mode) (ops : Array Oper) (tl : List Nat) : List (List Nat × Nat) → Array Bool → Bool
 | [], listed => takesOk md ops ops.size tl listed && (Region.ready md ops (marked tl listed)).isEmpty
 | (p, c) :: rest, listed => takesOk md ops ops.size p listed && (Region.ready md ops (marked p listed) == [c]) && chainSOk md ops tl rest ((marked p listed).setIfInBounds c true)
theorem chainS_sound (hsel : ∀ (j : Nat) (o : Oper) cs b, ops[j]? = some o → o.op ≠ .select cs b) (hQ : ∀ c a d v w, Q (.panic c) (Act.put a d v) w → Q (.panic c) a w) (tl : List Nat) :
  ∀ (ps : List (List Nat × Nat)) (listed : Array Bool) (a : Act) (w : World), chainSOk md ops tl ps listed = true → chainS P ops Q S tl ps a w → S w → ∀ more, wpAnyT P md ops Q S ops.size (chainLen ps + (tl.length + more)) listed a w
 | [], listed, a, w, hc, ⟨A, hp, h⟩, hS, more => by
  simp only [chainSOk, Bool.and_eq_true] at hc
  rw [show chainLen [] + (tl.length + more) = tl.length + more by simp only [chainLen]; omega]
  exact takes_sound hsel hQ tl listed a A w _ hc.1 hp hS (wpAnyT_done (by simpa using hc.2) h _)
 | (p, c) :: rest, listed, a, w, hc, ⟨A, o, hp, ho, h⟩, hS, more => by
  simp only [chainSOk, Bool.and_eq_true, beq_iff_eq] at hc
  obtain ⟨⟨ht, hr⟩, he⟩ := hc
  rw [show chainLen ((p, c) :: rest) + (tl.length + more) = p.length + (chainLen rest + (tl.length + more) + 1) by simp only [chainLen]; omega]
  refine takes_sound hsel hQ p listed a A w _ ht hp hS (wpAnyT_only hr (wpOp_mono (fun a' w' hk => ⟨fun _ => hk.1, ?_⟩) (wpOp_of_chain ho h)))
  exact chainS_sound hsel hQ tl rest _ a' w' he hk.2 hk.1 more
theorem wp_chainS {id : Nat} {a : Act} {w : World} (S : World → Prop) (ps : List (List Nat × Nat)) (tl : List Nat) (hm : P.follows .mixedOrders = true) (hs : Region.noSelect ops = true) (hc : chainSOk .any ops tl ps (Array.replicate ops.size false) = true)
  (hlen : chainLen ps + tl.length = ops.size) (hS : S w.drew) (h : chainS P ops (NoPanic Q) S tl ps a w.drew) : (Code.region id ops true).wp P Q a w := by
 have := chainS_sound (md := .any) (Region.noSelect_spec hs) (fun _ _ _ _ _ h => h) tl ps (Array.replicate ops.size false) a w.drew hc h hS 0
 rw [Nat.add_zero, hlen] at this
 exact wp_region_noPanic (wp_region_any hm (wpAny_of_T _ _ _ _ this))
end
open Go
section
variable {P : Program} {ops : Array Oper} {Q : Exit → Act → World → Prop} {md : Region.Mode} {S : World → Prop} {L : Nat}
def Closed (md : Region.Mode) (ops : Array Oper) (listed : Array Bool) : Prop := ∀ m om, ops[m]? = some om → listed.getD m false = true → ∀ e ∈ om.after, Region.binds md e = true → listed.getD e.on false = true
theorem Closed.step {listed : Array Bool} {j : Nat} (hcl : Closed md ops listed) (hj : j ∈ Region.ready md ops listed) : Closed md ops (listed.setIfInBounds j true) := fun m om hom hm e he hb => by
 by_cases hmj : m = j
 ·subst hmj
  obtain ⟨_, o, ho, hall⟩ := mem_ready.1 hj
  rw [hom] at ho
  injection ho with ho
  subst ho
  exact getD_set_true (hall e he hb)
 ·rw [getD_set_ne false (Ne.symm hmj)] at hm
  exact getD_set_true (hcl m om hom hm e he hb)
end
theorem Rd.takeC {w : World} {A : Option Addr} {c : Nat} {xs : List Nat} (h : Rd w (.slice A xs.length c) xs) (n : Nat) (hn : n ≤ xs.length) : Rd w (.slice A n c) (xs.take n) := by
 obtain ⟨hw, A', c', e, hc, hr⟩ := h
 injection e with e1 e2 e3
 subst e1 e3
 have hl : (xs.take n).length = n := by rw [List.length_take, Nat.min_eq_left hn]
 refine ⟨hw.take n, A, c, by rw [hl], by rw [hl]; omega, fun hp => ?_⟩
 rw [hl] at hp ⊢
 obtain ⟨g, o, rfl, hg, hj⟩ := hr (by omega)
 exact ⟨g, o, rfl, hg, fun j hjl => by rw [hj j (by omega), nat_take hjl]⟩
def RTrimPost (w : World) (A : Option Addr) (c : Nat) (xs : List Nat) (e : Ending) (w' : World) : Prop := ∃ n, n ≤ xs.length ∧ e = .returned (.slice A n c) ∧ xs.take n = dg (valN xs) ∧ Below w.heap.size w w'
set_option maxHeartbeats 8000000 in
set_option maxRecDepth 100000 in
theorem rtrim_calls (w : World) (A : Option Addr) (c : Nat) (xs : List Nat) (h : Rd w (.slice A xs.length c) xs) (hl : xs.length ≤ 1000000000000) (hc : xs.length ≤ c) :
  Calls Tryd.prog 55 #[.slice A xs.length c] w fun e w' => RTrimPost w A c xs e w' := by
 have HR := Hd h
 clear h
 go_enter Tryd.func55, Tryd.ntmps55
 go_wp2
 go_loop [3] (fun v => ∃ n : Nat, n ≤ xs.length ∧ v = .int .i64 n ∧ ∀ j, n ≤ j → j < xs.length → nat xs j = 0) (fun v => (intOf v).toNat)
 case atStart => exact ⟨xs.length, Nat.le_refl _, rfl, fun j h1 h2 => by omega⟩
 case round =>
  obtain ⟨n, hn, rfl, hz⟩ := hrel
  have HZ := Hd hz
  clear hz
  by_cases hp : 0 < n
  ·obtain ⟨g, o, rfl, hg, hcell⟩ := HR.out.cell (j := n - 1) (by omega)
   have n1 : (n : Int) > 0 := by omega
   have n2 : ((n : Int) - 1).toNat = n - 1 := by omega
   have n3 : 0 ≤ (n : Int) - 1 := by omega
   have n4 : (n : Int) - 1 < (xs.length : Int) := by omega
   have nw : IntKind.i64.wrap ((n : Int) - 1) = (n : Int) - 1 := IntWalk.i64_in _ (by omega)
   by_cases hx : nat xs (n - 1) = 0
   ·rw [hx] at hcell
    have hcell0 : w.cell? ⟨g, o + (n - 1), none⟩ = some (.int .u32 0) := hcell
    clear hcell
    have hz0 : ((0 : Int) == 0) = true := rfl
    go_wp2_with fail
    go_round
    case rel =>
     refine ⟨n - 1, by omega, by rw [show ((n - 1 : Nat) : Int) = (n : Int) - 1 by omega], fun j h1 h2 => ?_⟩
     by_cases hj : j = n - 1
     ·rw [hj]; exact hx
     ·exact HZ.out j (by omega) h2
    case measure => simp [intOf]; omega
   ·have hz0 : ((nat xs (n - 1) : Int) == 0) = false := by
     have : (nat xs (n - 1) : Int) ≠ 0 := by omega
     simpa using this
    have hcap : (n : Int) ≤ (c : Int) := by omega
    go_wp2_with fail
    go_ret
    exact ⟨n, hn, rfl, canon_take HR.out.wd hn HZ.out (.inr hx), Below.refl _ _⟩
  ·obtain rfl : n = 0 := by omega
   go_wp2_with fail
   go_ret
   exact ⟨0, hn, rfl, canon_take HR.out.wd hn HZ.out (.inl rfl), Below.refl _ _⟩
theorem rtrim_rn {w : World} {A : Option Addr} {c : Nat} {xs : List Nat} (h : Rd w (.slice A xs.length c) xs) (hl : xs.length ≤ 1000000000000) :
  Calls Tryd.prog 55 #[.slice A xs.length c] w fun e w' => WPost w (valN xs) e w' := by
 have hc : xs.length ≤ c := by
  obtain ⟨A', c', e, hc⟩ := h.slice
  injection e with e1 e2 e3
  omega
 refine (rtrim_calls w A c xs h hl hc).mono ?_
 rintro e w' ⟨n, hn, rfl, ht, hb⟩
 refine ⟨_, rfl, ?_, hb⟩
 have := (h.takeC n hn).below hb
 rw [ht] at this
 exact this
set_option maxHeartbeats 8000000 in
set_option maxRecDepth 100000 in
theorem rorder_calls (w : World) (v v2 : Value) (m n : Nat) (h : RN w v m) (h2 : RN w v2 n) (hm : wlen m ≤ 1000000000000) (hn : wlen n ≤ 1000000000000) :
  Calls Tryd.prog 67 #[v, v2] w fun e w' => e = .returned (.int .i64 (cmpI m n)) ∧ Below w.heap.size w w' := by
 obtain ⟨A, c, xs, rfl, hc, HX, HR⟩ := h.opened
 obtain ⟨A2, c2, ys, rfl, hc2, HY, HR2⟩ := h2.opened
 clear h h2
 have hlx : xs.length ≤ 1000000000000 := by rw [HX.out]; exact hm
 have hly : ys.length ≤ 1000000000000 := by rw [HY.out]; exact hn
 have HVX : Hid (valN xs = m) := by unfold Hid; rw [HX.out, valN_dg]
 have HVY : Hid (valN ys = n) := by unfold Hid; rw [HY.out, valN_dg]
 go_enter Tryd.func67, Tryd.ntmps67
 by_cases hne : xs.length = ys.length
 ·have t0 : ((xs.length : Int) != (ys.length : Int)) = false := by rw [hne]; simp
  go_wp2_with fail
  go_loopw [5] (fun vi wr => ∃ k : Nat, k ≤ xs.length ∧ vi = .int .i64 ((k : Int) - 1) ∧ Below w.heap.size w wr ∧ ∀ j, k ≤ j → j < xs.length → nat xs j = nat ys j) (fun vi _ => (intOf vi + 1).toNat)
  case atStart => exact ⟨xs.length, Nat.le_refl _, by go_num, Below.refl _ _, fun j h1 h2 => by omega⟩
  case round =>
   obtain ⟨k, hk, rfl, hbr, heq⟩ := hrel
   have HE := Hd heq
   have HB := Hd hbr
   clear heq
   by_cases h0 : 0 < k
   ·have HRr := Hd (HR.out.below hbr)
    have HRr2 := Hd (HR2.out.below hbr)
    clear hbr
    obtain ⟨g, o, rfl, hg, hcell⟩ := HRr.out.cell (j := k - 1) (by omega)
    obtain ⟨g2, o2, rfl, hg2, hcell2⟩ := HRr2.out.cell (j := k - 1) (by omega)
    have n1 : (k : Int) - 1 ≥ 0 := by omega
    have n2 : ((k : Int) - 1).toNat = k - 1 := by omega
    have n4 : (k : Int) - 1 < (xs.length : Int) := by omega
    have n5 : (k : Int) - 1 < (ys.length : Int) := by omega
    obtain ⟨x, hx⟩ : ∃ x, x = nat xs (k - 1) := ⟨_, rfl⟩
    obtain ⟨y, hy⟩ : ∃ y, y = nat ys (k - 1) := ⟨_, rfl⟩
    rw [← hx] at hcell
    rw [← hy] at hcell2
    have HXX := Hd hx
    have HYY := Hd hy
    clear hx hy
    by_cases hxy : x = y
    ·have t1 : ((x : Int) != (y : Int)) = false := by rw [hxy]; simp
     have nw : IntKind.i64.wrap ((k : Int) - 1 - 1) = (k : Int) - 1 - 1 := IntWalk.i64_in _ (by omega)
     go_wp2_with fail
     go_quiet (fail)
     go_wp2_with fail
     go_roundw
     case rel =>
      refine ⟨k - 1, by omega, by go_num, pw_drewN HB.out _, fun j h1 h2 => ?_⟩
      by_cases hj : j = k - 1
      ·rw [hj, ← HXX.out, ← HYY.out, hxy]
      ·exact HE.out j (by omega) h2
     case measure => simp [intOf]; omega
    ·have t1 : ((x : Int) != (y : Int)) = true := by
      have : (x : Int) ≠ (y : Int) := by omega
      simpa using this
     by_cases hlt : x < y
     ·have t2 : decide ((x : Int) < (y : Int)) = true := decide_eq_true (by omega)
      go_wp2_with fail
      go_quiet (fail)
      go_wp2_with fail
      go_quiet (fail)
      go_wp2_with fail
      go_ret
      refine ⟨?_, pw_drewN (pw_drewN HB.out _) _⟩
      have : m < n := by
       rw [← HVX.out, ← HVY.out]
       exact cmp_top HR.out.wd HR2.out.wd hne (k - 1) (by omega) (fun j h1 h2 => HE.out j (by omega) h2) (by rw [← HXX.out, ← HYY.out]; exact hlt)
      rw [show cmpI m n = -1 by unfold cmpI; rw [if_neg (by omega), if_pos this]]
      rfl
     ·have t2 : decide ((x : Int) < (y : Int)) = false := decide_eq_false (by omega)
      go_wp2_with fail
      go_quiet (fail)
      go_wp2_with fail
      go_quiet (fail)
      go_wp2_with fail
      go_ret
      refine ⟨?_, pw_drewN (pw_drewN HB.out _) _⟩
      have : n < m := by
       rw [← HVX.out, ← HVY.out]
       exact cmp_top HR2.out.wd HR.out.wd hne.symm (k - 1) (by omega) (fun j h1 h2 => (HE.out j (by omega) (by omega)).symm) (by rw [← HXX.out, ← HYY.out]; omega)
      rw [show cmpI m n = 1 by unfold cmpI; rw [if_neg (by omega), if_neg (by omega)]]
      rfl
   ·obtain rfl : k = 0 := by omega
    go_wp2_with fail
    go_ret
    refine ⟨?_, HB.out⟩
    have : m = n := by
     rw [← HVX.out, ← HVY.out]
     congr 1
     apply List.ext_getElem hne
     intro j h1 h2
     have := HE.out j (by omega) h1
     simpa [nat, List.getD_eq_getElem?_getD, List.getElem?_eq_getElem h1, List.getElem?_eq_getElem h2] using this
    rw [show cmpI m n = 0 by unfold cmpI; rw [if_pos this]]
    rfl
 ·have t0 : ((xs.length : Int) != (ys.length : Int)) = true := by
   have : (xs.length : Int) ≠ (ys.length : Int) := by omega
   simpa using this
  by_cases hlt : xs.length < ys.length
  ·have t1 : (xs.length : Int) < (ys.length : Int) := by omega
   go_wp2_with fail
   go_ret
   refine ⟨?_, Below.refl _ _⟩
   have : m < n := valN_lt_len (by rw [← HX.out, ← HY.out]; exact hlt)
   rw [show cmpI m n = -1 by unfold cmpI; rw [if_neg (by omega), if_pos this]]
   rfl
  ·have t1 : ¬ (xs.length : Int) < (ys.length : Int) := by omega
   go_wp2_with fail
   go_ret
   refine ⟨?_, Below.refl _ _⟩
   have : n < m := valN_lt_len (by rw [← HX.out, ← HY.out]; omega)
   rw [show cmpI m n = 1 by unfold cmpI; rw [if_neg (by omega), if_neg (by omega)]]
   rfl
theorem mask_low (n : Nat) (h : n < 18446744073709551616) : bits .and .u64 (n : Int) 4294967295 = ((n % 4294967296 : Nat) : Int) := by
 have := bits_mask .u64 64 (by decide) (fun n h0 h1 => IntWalk.u64_in n (by omega)) 32 (by decide) (n : Int) (by omega) (by omega)
 rw [show (4294967295 : Int) = 2 ^ 32 - 1 by decide, this]
 omega
set_option maxHeartbeats 8000000 in
set_option maxRecDepth 100000 in
theorem rhalves_calls (w : World) (v : Value) (m d : Nat) (h : RN w v m) (hm : wlen m ≤ 100000000000) (hd : 0 < d) (hd2 : d < 4294967296) :
  Calls Tryd.prog 43 #[v, .int .u32 d] w fun e w' => ShortPost w m d e w' := by
 obtain ⟨A, c, xs, rfl, hc, HX, HR⟩ := h.opened
 clear h
 have hlx : xs.length ≤ 100000000000 := by rw [HX.out]; exact hm
 have HVX : Hid (valN xs = m) := by unfold Hid; rw [HX.out, valN_dg]
 clear HX hm
 go_enter Tryd.func43, Tryd.ntmps43
 have hmk := make_words 25 Tryd.underlying25 xs.length (by omega)
 go_wp2_with fail
 clear hmk
 have hw0 := gb_alloc (gb_refl w none) (zw xs.length)
 have ha0 := zw_arr w xs.length
 generalize w.alloc (zw xs.length) = W0 at *
 go_loopw [7, 8] (fun vr vi wr => ∃ (k rest : Nat) (q : List Nat), k ≤ xs.length ∧ vi = .int .i64 ((k : Int) - 1) ∧ vr = .int .u64 (rest : Int) ∧ rest < d ∧ q.length = xs.length - k ∧ Wd q ∧
   valN (xs.drop k) = d * valN q + rest ∧ Arr .u32 wr w.heap.size 44 (ints (List.replicate k 0 ++ q)) ∧ w.grownBy wr none) (fun _ vi _ => (intOf vi + 1).toNat)
 case atStart => exact ⟨xs.length, 0, [], Nat.le_refl _, by go_num, rfl, hd, by simp, (fun x hx => (by cases hx)), by simp [valN], by rw [List.append_nil]; exact ha0, hw0⟩
 case round =>
  obtain ⟨k, rest, q, hk, rfl, rfl, hrest, hql, hqw, hval, harr, hgb⟩ := hrel
  have HD := Hd hqw
  have HV := Hd hval
  have HA := Hd harr
  have HG := Hd hgb
  have HL := Hd hql
  clear hqw hval harr hql
  by_cases h0 : 0 < k
  ·have HRr := Hd (HR.out.gb hgb)
   clear hgb
   obtain ⟨g, o, rfl, hg, hcell⟩ := HRr.out.cell (j := k - 1) (by omega)
   have n1 : (k : Int) - 1 ≥ 0 := by omega
   have n2 : ((k : Int) - 1).toNat = k - 1 := by omega
   have n4 : (k : Int) - 1 < (xs.length : Int) := by omega
   have hx := nat_lt HR.out.wd (k - 1)
   obtain ⟨x, hxx⟩ : ∃ x, x = nat xs (k - 1) := ⟨_, rfl⟩
   rw [← hxx] at hx hcell
   have HXX := Hd hxx
   clear hxx
   have hlen : (ints (List.replicate k 0 ++ q)).length = xs.length := by rw [ints_length]; simp [HL.out]; omega
   have hco := HA.out.cell (k - 1) (by rw [hlen]; omega)
   have hfr := HA.out.frozen (k - 1)
   obtain ⟨old, hold⟩ : ∃ old, old = (ints (List.replicate k 0 ++ q)).getD (k - 1) 0 := ⟨_, rfl⟩
   rw [← hold] at hco
   clear hold
   have f0 : IntKind.u64.wrap (x : Int) = (x : Int) := IntWalk.u64_in _ (by omega)
   have f1 : IntKind.u64.wrap (d : Int) = (d : Int) := IntWalk.u64_in _ (by omega)
   have f2 : IntKind.u64.wrap ((rest : Int) * 4294967296) = (rest : Int) * 4294967296 := IntWalk.u64_in _ (by omega)
   have hor := or_word rest x (by omega) hx
   obtain ⟨z, hz⟩ : ∃ z, z = rest * 4294967296 + x := ⟨_, rfl⟩
   rw [← hz] at hor
   obtain ⟨qq, rr, hqr, hrr, hqq⟩ := short_step hd (show z < d * 4294967296 by have := Nat.mul_le_mul_right 4294967296 (show rest + 1 ≤ d by omega); omega)
   have hz64 : z < 18446744073709551616 := by omega
   have g1 : (z : Int) / (d : Int) = (qq : Int) := by rw [← Int.natCast_ediv, hqr.1]
   have g2 : (z : Int) % (d : Int) = (rr : Int) := by rw [← Int.natCast_emod, hqr.2]
   have g3 : (z : Int).tdiv (d : Int) = (qq : Int) := by rw [Int.tdiv_eq_ediv_of_nonneg (by omega), g1]
   have g4 : (z : Int).tmod (d : Int) = (rr : Int) := by rw [Int.tmod_eq_emod_of_nonneg (by omega), g2]
   have hqr2 : z = d * qq + rr := by rw [← hqr.1, ← hqr.2]; exact (Nat.div_add_mod z d).symm
   have f3 : IntKind.u64.wrap (qq : Int) = (qq : Int) := IntWalk.u64_in _ (by omega)
   have f4 : IntKind.u64.wrap (rr : Int) = (rr : Int) := IntWalk.u64_in _ (by omega)
   have f5 : IntKind.u32.wrap (qq : Int) = (qq : Int) := by rw [IntKind.wrap_u32]; omega
   have d0 : ((d : Int) == 0) = false := by
    have : (d : Int) ≠ 0 := by omega
    simpa using this
   have d1 : (d : Int) ≠ 0 := by omega
   have nw : IntKind.i64.wrap ((k : Int) - 1 - 1) = (k : Int) - 1 - 1 := IntWalk.i64_in _ (by omega)
   have HZ := Hd hz
   have HQR := Hd hqr2
   clear hz hqr hqr2
   go_wp2_with fail
   go_roundw
   case rel =>
    refine ⟨k - 1, rr, qq :: q, by omega, by go_num, rfl, hrr, by rw [List.length_cons, HL.out]; omega, ?_, ?_, ?_, gb_set HG.out (.inl (Nat.le_refl _)) _⟩
    ·intro y hy
     rcases List.mem_cons.1 hy with rfl | hy
     ·exact hqq
     ·exact HD.out y hy
    ·rw [valN_drop _ _ (by omega), show k - 1 + 1 = k by omega, HV.out, valN, ← HXX.out]
     have h1 := HZ.out
     have h2 := HQR.out
     grind
    ·have := HA.out.set (k - 1) (qq : Int)
     rw [ints_set] at this
     rw [show List.replicate k 0 = List.replicate (k - 1) 0 ++ [0] by rw [← List.replicate_succ', show k - 1 + 1 = k by omega], List.append_assoc, List.set_append_right _ _ (by simp)] at this
     simp only [List.length_replicate, Nat.sub_self, List.cons_append, List.nil_append, List.set_cons_zero] at this
     exact this
   case measure => simp [intOf]; omega
  ·obtain rfl : k = 0 := by omega
   have ha2 := HA.out
   rw [List.replicate_zero, List.nil_append] at ha2
   have hql : q.length = xs.length := by have := HL.out; omega
   have hrd := Rd.of_arr ha2 HD.out
   have HRD := Hd (show Rd wr (.slice (some ⟨w.heap.size, 0, none⟩) q.length xs.length) q by rw [hql] at hrd ⊢; exact hrd)
   have HQL := Hd hql
   clear ha2 hrd hql hgb
   have f4 : IntKind.u32.wrap (rest : Int) = (rest : Int) := by rw [IntKind.wrap_u32]; omega
   go_wp2_with fail
   have htr := rtrim_rn HRD.out (by rw [HQL.out]; omega)
   rw [HQL.out] at htr
   refine htr.mono ?_
   rintro e w' ⟨v, rfl, hv, hb⟩
   have hval : m = d * valN q + rest := by
    have := HV.out
    rw [List.drop_zero, HVX.out] at this
    exact this
   have hq : valN q = m / d := by
    rw [hval, Nat.add_comm, Nat.add_mul_div_left _ _ hd, Nat.div_eq_of_lt hrest, Nat.zero_add]
   have hr : rest = m % d := by
    rw [hval, Nat.mul_add_mod, Nat.mod_eq_of_lt hrest]
   rw [hq] at hv
   have HBB := Hd (gb_to_below (gb_below HG.out hb))
   have HRR := Hd hr
   clear hq hr hval
   go_wp2_with fail
   go_ret2
   exact ⟨_, by rw [← HRR.out]; rfl, hv, HBB.out⟩
theorem mask_any {a : Int} {lo hi : Nat} (h : a = (lo : Int) + 4294967296 * (hi : Int)) (hlo : lo < 4294967296) (hhi : hi < 4294967296) : bits .and .u64 a 4294967295 = (lo : Int) := by
 have := mask_low (lo + 4294967296 * hi) (by omega)
 rw [show ((lo + 4294967296 * hi : Nat) : Int) = a by omega] at this
 rw [this]
 omega
set_option maxHeartbeats 8000000 in
set_option maxRecDepth 100000 in
theorem rshift_calls (w : World) (v : Value) (m n : Nat) (h : RN w v m) (hm : wlen m ≤ 100000000000) (hn : n < 32) :
  Calls Tryd.prog 68 #[v, .int .u64 n] w fun e w' => ShiftPost w m n (wlen m) e w' := by
 obtain ⟨A, c, xs, rfl, hc, HX, HR⟩ := h.opened
 clear h
 have hlx : xs.length ≤ 100000000000 := by rw [HX.out]; exact hm
 have HVX : Hid (valN xs = m) := by unfold Hid; rw [HX.out, valN_dg]
 have HLX : Hid (wlen m = xs.length) := by unfold Hid; rw [HX.out]; rfl
 clear HX hm
 go_enter Tryd.func68, Tryd.ntmps68
 obtain ⟨N, hN⟩ : ∃ N : Nat, xs.length + 1 = N := ⟨_, rfl⟩
 have wl : IntKind.i64.wrap ((xs.length : Int) + 1) = ((N : Nat) : Int) := by rw [IntWalk.i64_in _ (by omega)]; omega
 have hmk := make_words 25 Tryd.underlying25 N (by omega)
 go_wp2_with fail
 clear hmk wl
 have hw0 := gb_alloc (gb_refl w none) (zw N)
 have ha0 := zw_arr w N
 generalize w.alloc (zw N) = W0 at *
 go_loopw [6] (fun vi wr => ∃ (i t : Nat) (d : List Nat), i ≤ xs.length ∧ vi = .int .i64 (i : Int) ∧ t < 2 ^ n ∧ d.length = i ∧ Wd d ∧
   valN d + t * 4294967296 ^ i = valN (xs.take i) * 2 ^ n ∧ Arr .u32 wr w.heap.size 44 (ints (d ++ t :: List.replicate (xs.length - i) 0)) ∧ w.grownBy wr none) (fun vi _ => xs.length - (intOf vi).toNat)
 case atStart => exact ⟨0, 0, [], by omega, rfl, Nat.pow_pos (by decide), rfl, (fun x hx => (by cases hx)), by simp [valN], by rw [List.nil_append, Nat.sub_zero, ← List.replicate_succ, hN]; exact ha0, hw0⟩
 case round =>
  obtain ⟨i, t, d, hi, rfl, ht, hdl, hdw, hval, harr, hgb⟩ := hrel
  have HD := Hd hdw
  have HV := Hd hval
  have HA := Hd harr
  have HG := Hd hgb
  have HL := Hd hdl
  clear hdw hval harr hdl
  by_cases hlx2 : i < xs.length
  ·have HRr := Hd (HR.out.gb hgb)
   clear hgb
   obtain ⟨g, o, rfl, hg, hcell⟩ := HRr.out.cell (j := i) hlx2
   have n1 : (i : Int) < (xs.length : Int) := by omega
   have n3 : (i : Int).toNat = i := by omega
   have n4 : (0 : Int) ≤ (i : Int) := by omega
   have n0 : (0 : Int) ≤ (n : Int) := by omega
   have nn : (n : Int).toNat = n := by omega
   have n5 : (i : Int) < (N : Int) := by omega
   have n6 : i < N := by omega
   have hx := nat_lt HR.out.wd i
   obtain ⟨x, hxx⟩ : ∃ x, x = nat xs i := ⟨_, rfl⟩
   rw [← hxx] at hx hcell
   have HXX := Hd hxx
   clear hxx
   have f0 : IntKind.u64.wrap (x : Int) = (x : Int) := IntWalk.u64_in _ (by omega)
   obtain ⟨y, lo, hi2, hy, hs, hl0, hll, hh⟩ := shift_word hx hn
   have hh31 : hi2 < 4294967296 := by
    have : 2 ^ n ≤ 2 ^ 31 := Nat.pow_le_pow_right (by decide) (by omega)
    omega
   have f1 := wrap_shift hx hn hy
   have hlo : lo < 4294967296 := by
    have : 0 < 2 ^ n := Nat.pow_pos (by decide)
    omega
   have f2 : bits .and .u64 (y : Int) 4294967295 = (lo : Int) := mask_any (by omega) hlo hh31
   have f20 : IntKind.u32.wrap (lo : Int) = (lo : Int) := by rw [IntKind.wrap_u32]; omega
   have hor0 := or_zero hh31
   have f3 : (y : Int) / 4294967296 = (hi2 : Int) := by
    have : 0 < 2 ^ n := Nat.pow_pos (by decide)
    omega
   have f4 : IntKind.u32.wrap (hi2 : Int) = (hi2 : Int) := by rw [IntKind.wrap_u32]; omega
   have hor := or_shift hn ht hl0 hll
   obtain ⟨s, hss⟩ : ∃ s, s = lo + t := ⟨_, rfl⟩
   have hs32 : s < 4294967296 := by omega
   rw [← hss] at hor
   have hz : List.replicate (xs.length - i) 0 = 0 :: List.replicate (xs.length - (i + 1)) 0 := by rw [← List.replicate_succ]; congr 1; omega
   have HA2 : Hid (Arr .u32 wr w.heap.size 44 (ints (d ++ t :: 0 :: List.replicate (xs.length - (i + 1)) 0))) := by have := HA.out; rw [hz] at this; exact this
   clear HA hz
   have hlen : (ints (d ++ t :: 0 :: List.replicate (xs.length - (i + 1)) 0)).length = N := by rw [ints_length]; simp [HL.out] <;> omega
   have hco : wr.cell? ⟨w.heap.size, i, none⟩ = some (.int .u32 (t : Int)) := by
    have h1 := HA2.out.cell i (by rw [hlen]; omega)
    have h2 := nth_ints (d ++ t :: 0 :: List.replicate (xs.length - (i + 1)) 0) i
    unfold nth at h2
    rw [h1, h2, nat_append_right (by rw [HL.out]; exact Nat.le_refl _), HL.out, Nat.sub_self]
    rfl
   have HA3 : Hid (Arr .u32 (wr.setCell ⟨w.heap.size, i, none⟩ (.int .u32 (s : Int))) w.heap.size 44 (ints (d ++ [s] ++ 0 :: List.replicate (xs.length - (i + 1)) 0))) := by
    have := HA2.out.set i (s : Int)
    rw [ints_set, set_two _ _ _ _ _ HL.out] at this
    exact this
   have hfr := HA2.out.frozen i
   have hco2 : (wr.setCell ⟨w.heap.size, i, none⟩ (.int .u32 (s : Int))).cell? ⟨w.heap.size, i + 1, none⟩ = some (.int .u32 ((0 : Nat) : Int)) := by
    have h1 := HA3.out.cell (i + 1) (by rw [ints_length]; simp [HL.out])
    have h2 := nth_ints (d ++ [s] ++ 0 :: List.replicate (xs.length - (i + 1)) 0) (i + 1)
    unfold nth at h2
    rw [h1, h2, nat_append_right (by simp [HL.out]), List.length_append, HL.out]
    simp [nat]
   have hfr2 := HA3.out.frozen (i + 1)
   have k1 : IntKind.i64.wrap ((i : Int) + 1) = (i : Int) + 1 := IntWalk.i64_in _ (by omega)
   have k2 : (i : Int) + 1 < (N : Int) := by omega
   have k3 : ((i : Int) + 1).toNat = i + 1 := by omega
   have k4 : i + 1 < N := by omega
   have k5 : 0 ≤ (i : Int) + 1 := by omega
   have HY := Hd hy
   have HS := Hd hs
   have HSS := Hd hss
   have HLL := Hd hll
   clear hy hs hss hl0 hll
   go_wp2_with fail
   go_roundw
   case rel =>
    refine ⟨i + 1, hi2, d ++ [s], by omega, by go_num, hh, by simp [HL.out], HD.out.snoc hs32, ?_, ?_, gb_set (gb_set HG.out (.inl (Nat.le_refl _)) _) (.inl (Nat.le_refl _)) _⟩
    ·rw [valN_snoc, HL.out, valN_take_succ _ _ hlx2, ← HXX.out, Nat.pow_succ, HSS.out]
     exact shift_step HV.out (by rw [← HY.out]; exact HS.out)
    ·have := HA3.out.set (i + 1) (hi2 : Int)
     rw [ints_set, List.set_append_right _ _ (by simp [HL.out])] at this
     simp only [List.length_append, HL.out, List.length_cons, List.length_nil, Nat.zero_add, Nat.sub_self, List.set_cons_zero] at this
     exact this
   case measure => simp [intOf]; omega
  ·obtain rfl : i = xs.length := by omega
   go_wp2_with fail
   go_ret
   have ht32 : t < 4294967296 := by
    have : 2 ^ n ≤ 2 ^ 31 := Nat.pow_le_pow_right (by decide) (by omega)
    omega
   rw [HLX.out]
   refine ⟨w.heap.size, d ++ [t], by rw [hN]; rfl, Nat.le_refl _, by simp [HL.out], HD.out.snoc ht32, ?_, ?_, gb_to_below HG.out⟩
   ·have := HV.out
    rw [List.take_length, HVX.out] at this
    rw [valN_snoc, HL.out, ← this, Nat.mul_comm]
   ·have := HA.out
    rw [Nat.sub_self, List.replicate_zero] at this
    exact this
theorem pow_parts {n : Nat} (hn : n < 32) : ∃ p q, p = 2 ^ n ∧ q = 2 ^ (32 - n) ∧ p * q = 4294967296 ∧ 0 < p ∧ 0 < q := ⟨_, _, rfl, rfl, pow_split hn, Nat.pow_pos (by decide), Nat.pow_pos (by decide)⟩
theorem back_low {x y p q : Nat} (hp : 0 < p) (hpq : p * q = 4294967296) (hx : x < 4294967296) : ∃ hi, (x + 4294967296 * y) / p = (x / p + q * (y % p)) + 4294967296 * hi ∧ hi = y / p ∧ x / p + q * (y % p) < 4294967296 := by
  have hxq : x / p < q := by rw [Nat.div_lt_iff_lt_mul hp, Nat.mul_comm, hpq]; exact hx
  have hr : y % p < p := Nat.mod_lt _ hp
  refine ⟨y / p, ?_, rfl, ?_⟩
  · have e1 : x + 4294967296 * y = x + p * (q * y) := by rw [← Nat.mul_assoc, hpq]
    have e2 : q * y = 4294967296 * (y / p) + q * (y % p) := by
      have := Nat.div_add_mod y p
      calc q * y = q * (p * (y / p) + y % p) := by rw [this]
        _ = 4294967296 * (y / p) + q * (y % p) := by rw [Nat.mul_add, ← Nat.mul_assoc, Nat.mul_comm q p, hpq]
    rw [e1, Nat.add_mul_div_left _ _ hp, e2]
    omega
  · have h1 : q * (y % p) ≤ q * (p - 1) := Nat.mul_le_mul_left q (by omega)
    have h2 : q * (p - 1) + q = 4294967296 := by rw [← Nat.mul_succ, Nat.succ_eq_add_one, Nat.sub_add_cancel hp, Nat.mul_comm, hpq]
    omega
theorem rback_step {x y z p q : Nat} (hp : 0 < p) (hpq : p * q = 4294967296) (hx : x < 4294967296) : (x + 4294967296 * (y + 4294967296 * z)) / p = (x / p + q * (y % p)) + 4294967296 * ((y + 4294967296 * z) / p) := by
 obtain ⟨hi, h1, h2, _⟩ := back_low (y := y + 4294967296 * z) hp hpq hx
 rw [h1, h2]
 have : (y + 4294967296 * z) % p = y % p := by
  rw [← hpq, Nat.mul_assoc, Nat.add_mul_mod_self_left]
 rw [this]
theorem or_hi {x y : Nat} (hx : x < 4294967296) (hy : y < 4294967296) : bits .or .u64 (x : Int) ((y : Int) * 4294967296) = ((x + 4294967296 * y : Nat) : Int) := by
 rw [bits_or_comm, or_word y x hy hx]
 omega
theorem div_pow {z n k : Nat} (h : z / 2 ^ n = k) : (z : Int) / 2 ^ n = (k : Int) := by
 have e : (2 : Int) ^ n = ((2 ^ n : Nat) : Int) := by push_cast; rfl
 rw [e, ← Int.natCast_ediv, h]
set_option maxHeartbeats 8000000 in
set_option maxRecDepth 100000 in
theorem rback_calls (w : World) (A : Option Addr) (c : Nat) (xs : List Nat) (n : Nat) (h : Rd w (.slice A xs.length c) xs) (hlx : xs.length ≤ 100000000000) (hn : n < 32) :
  Calls Tryd.prog 69 #[.slice A xs.length c, .int .u64 n] w fun e w' => WPost w (valN xs / 2 ^ n) e w' := by
 have HR := Hd h
 clear h
 obtain ⟨p, q, hp, hq, hpq, hp0, hq0⟩ := pow_parts hn
 rw [← hp]
 have HP := Hd hp
 have HPQ := Hd hpq
 clear hp hq hpq
 go_enter Tryd.func69, Tryd.ntmps69
 have hmk := make_words 25 Tryd.underlying25 xs.length (by omega)
 go_wp2_with fail
 clear hmk
 have hw0 := gb_alloc (gb_refl w none) (zw xs.length)
 have ha0 := zw_arr w xs.length
 generalize w.alloc (zw xs.length) = W0 at *
 go_loopw [6] (fun vi wr => ∃ (i : Nat) (d : List Nat), i ≤ xs.length ∧ vi = .int .i64 (i : Int) ∧ d.length = i ∧ Wd d ∧
   valN xs / p = valN d + 4294967296 ^ i * (valN (xs.drop i) / p) ∧ Arr .u32 wr w.heap.size 44 (ints (d ++ (List.replicate xs.length 0).drop i)) ∧ w.grownBy wr none) (fun vi _ => xs.length - (intOf vi).toNat)
 case atStart => exact ⟨0, [], by omega, rfl, rfl, (fun x hx => (by cases hx)), by simp [valN], ha0, hw0⟩
 case round =>
  obtain ⟨i, d, hi, rfl, hdl, hdw, hval, harr, hgb⟩ := hrel
  have HD := Hd hdw
  have HV := Hd hval
  have HA := Hd harr
  have HG := Hd hgb
  have HL := Hd hdl
  clear hdw hval harr hdl
  by_cases hlx2 : i < xs.length
  ·have HRr := Hd (HR.out.gb hgb)
   clear hgb
   obtain ⟨g, o, rfl, hg, hcell⟩ := HRr.out.cell (j := i) hlx2
   have n1 : (i : Int) < (xs.length : Int) := by omega
   have n3 : (i : Int).toNat = i := by omega
   have n4 : (0 : Int) ≤ (i : Int) := by omega
   have n0 : (0 : Int) ≤ (n : Int) := by omega
   have nn : (n : Int).toNat = n := by omega
   have hx := nat_lt HR.out.wd i
   obtain ⟨x, hxx⟩ : ∃ x, x = nat xs i := ⟨_, rfl⟩
   rw [← hxx] at hx hcell
   have HXX := Hd hxx
   clear hxx
   have f0 : IntKind.u64.wrap (x : Int) = (x : Int) := IntWalk.u64_in _ (by omega)
   have k1 : IntKind.i64.wrap ((i : Int) + 1) = (i : Int) + 1 := IntWalk.i64_in _ (by omega)
   have hlen : (ints (d ++ (List.replicate xs.length 0).drop i)).length = xs.length := by rw [ints_length]; simp [HL.out]; omega
   have hco := HA.out.cell i (by rw [hlen]; omega)
   have hfr := HA.out.frozen i
   obtain ⟨old, hold⟩ : ∃ old, old = (ints (d ++ (List.replicate xs.length 0).drop i)).getD i 0 := ⟨_, rfl⟩
   rw [← hold] at hco
   clear hold
   have fin : ∀ lo : Nat, lo < 4294967296 → valN (xs.drop i) / p = lo + 4294967296 * (valN (xs.drop (i + 1)) / p) → (∃ (i' : Nat) (d' : List Nat), i' ≤ xs.length ∧ Value.int .i64 ((i : Int) + 1) = .int .i64 (i' : Int) ∧ d'.length = i' ∧ Wd d' ∧ valN xs / p = valN d' + 4294967296 ^ i' * (valN (xs.drop i') / p) ∧ Arr .u32 (wr.setCell ⟨w.heap.size, i, none⟩ (.int .u32 (lo : Int))) w.heap.size 44 (ints (d' ++ (List.replicate xs.length 0).drop i')) ∧ w.grownBy (wr.setCell ⟨w.heap.size, i, none⟩ (.int .u32 (lo : Int))) none) := fun lo hlo hst => by
    refine ⟨i + 1, d ++ [lo], by omega, by go_num, by simp [HL.out], HD.out.snoc hlo, ?_, ?_, gb_set HG.out (.inl (Nat.le_refl _)) _⟩
    ·rw [valN_snoc, HL.out, HV.out, hst, Nat.pow_succ, Nat.mul_add, Nat.mul_assoc, Nat.add_assoc]
    ·have := HA.out.set i (lo : Int)
     rw [ints_set, set_pass _ _ _ _ HL.out (by simp; omega)] at this
     exact this
   have HF := Hd fin
   clear fin
   by_cases hl2 : i + 1 < xs.length
   ·obtain ⟨g2, o2, e2, hg2, hcell2⟩ := HRr.out.cell (j := i + 1) hl2
    injection e2 with e2
    injection e2 with e21 e22
    subst e21 e22
    have hy := nat_lt HR.out.wd (i + 1)
    obtain ⟨y, hyy⟩ : ∃ y, y = nat xs (i + 1) := ⟨_, rfl⟩
    rw [← hyy] at hy hcell2
    have HYY := Hd hyy
    clear hyy
    have m1 : (i : Int) + 1 < (xs.length : Int) := by omega
    have m2 : ((i : Int) + 1).toNat = i + 1 := by omega
    have m3 : 0 ≤ (i : Int) + 1 := by omega
    have g0 : IntKind.u64.wrap (y : Int) = (y : Int) := IntWalk.u64_in _ (by omega)
    have g1 : IntKind.u64.wrap ((y : Int) * 4294967296) = (y : Int) * 4294967296 := IntWalk.u64_in _ (by omega)
    have g2' := or_hi hx hy
    obtain ⟨z, hz⟩ : ∃ z, z = x + 4294967296 * y := ⟨_, rfl⟩
    rw [← hz] at g2'
    obtain ⟨hi2, h1, h2, h3⟩ := back_low (y := y) hp0 HPQ.out hx
    obtain ⟨lo, hlo⟩ : ∃ lo, lo = x / p + q * (y % p) := ⟨_, rfl⟩
    rw [← hlo] at h1 h3
    rw [← hz] at h1
    obtain ⟨k, hk⟩ : ∃ k, k = z / p := ⟨_, rfl⟩
    have g3 : (z : Int) / 2 ^ n = (k : Int) := div_pow (by rw [← HP.out, hk])
    have hyp : hi2 ≤ y := by rw [h2]; exact Nat.div_le_self _ _
    have g4 : bits .and .u64 (k : Int) 4294967295 = (lo : Int) := mask_any (hi := hi2) (by rw [hk, h1]; omega) h3 (by omega)
    have g5 : IntKind.u32.wrap (lo : Int) = (lo : Int) := by rw [IntKind.wrap_u32]; omega
    have HST : Hid (valN (xs.drop i) / p = lo + 4294967296 * (valN (xs.drop (i + 1)) / p)) := by
     unfold Hid
     rw [valN_drop _ _ hlx2, valN_drop _ _ hl2, ← HXX.out, ← HYY.out, rback_step hp0 HPQ.out hx, ← hlo]
    have H3 := Hd h3
    clear hz hlo hk h1 h2 h3 hyp
    go_wp2_with fail
    go_roundw
    case rel => exact HF.out lo H3.out HST.out
    case measure => simp [intOf]; omega
   ·have m1 : ¬ (i : Int) + 1 < (xs.length : Int) := by omega
    obtain ⟨hi2, h1, h2, h3⟩ := back_low (y := 0) hp0 HPQ.out hx
    obtain ⟨lo, hlo⟩ : ∃ lo, lo = x / p := ⟨_, rfl⟩
    rw [Nat.zero_mod, Nat.mul_zero, Nat.add_zero, ← hlo] at h1 h3
    rw [Nat.zero_div] at h2
    have g3 : (x : Int) / 2 ^ n = (lo : Int) := div_pow (by rw [← HP.out, hlo])
    have g4 : bits .and .u64 (lo : Int) 4294967295 = (lo : Int) := mask_word h3
    have g5 : IntKind.u32.wrap (lo : Int) = (lo : Int) := by rw [IntKind.wrap_u32]; omega
    have HST : Hid (valN (xs.drop i) / p = lo + 4294967296 * (valN (xs.drop (i + 1)) / p)) := by
     unfold Hid
     rw [valN_drop _ _ hlx2, List.drop_of_length_le (show xs.length ≤ i + 1 by omega), ← HXX.out, hlo]
     simp [valN]
    have H3 := Hd h3
    clear hlo h1 h2 h3
    go_wp2_with fail
    go_roundw
    case rel => exact HF.out lo H3.out HST.out
    case measure => simp [intOf]; omega
  ·obtain rfl : i = xs.length := by omega
   clear hgb
   go_wp2_with fail
   have ha2 := HA.out
   rw [List.drop_of_length_le (by simp), List.append_nil] at ha2
   have hrd := Rd.of_arr ha2 HD.out
   rw [HL.out] at hrd
   have hrd2 : Rd wr (.slice (some ⟨w.heap.size, 0, none⟩) d.length xs.length) d := by rw [HL.out]; exact hrd
   have htr := rtrim_rn hrd2 (by rw [HL.out]; omega)
   rw [HL.out] at htr
   refine htr.mono ?_
   rintro e w' ⟨v, rfl, hv, hb⟩
   have hval : valN d = valN xs / p := by
    have h1 := HV.out
    rw [List.drop_length] at h1
    simpa [valN] using h1.symm
   rw [hval] at hv
   have HBB := Hd (gb_to_below (gb_below HG.out hb))
   go_wp2_with fail
   go_ret
   exact ⟨_, rfl, hv, HBB.out⟩
theorem info140 : (Tryd.prog.info? 94).map (·.size) = some 2 := by kernel_rfl
def PartsPost (w : World) (m n : Nat) (e : Ending) (w' : World) : Prop := ∃ v v2, e = .returned (.agg #[v, v2]) ∧ RN w' v (m / n) ∧ RN w' v2 (m % n) ∧ Below w.heap.size w w'
theorem ret140 {fn : Func} {p : Tmp} {Post : Ending → World → Prop} {tmps : Array Value} {w : World} {g : Nat} {a b : Value} (hres : fn.results = #[.cell p 94]) (hp : tmps.getD p undef = .pointer (some ⟨g, 0, none⟩)) (hb : Blk w g 94 #[a, b])
  (hP : Post (.returned (.agg #[a, b])) w) : bodyPost Tryd.prog fn Post Exit.ret { tmps := tmps, defers := [] } w :=
 bodyPost_ret (v := .agg #[a, b]) (results_cell_row hres _ _ g 94 #[a, b] (0, 0) _ hp hb Tryd.underlying94 rfl info140) rfl hP
theorem ni140 : ∀ x ∈ #[Value.slice none 0 0, .slice none 0 0], notInt x = true := by simp [notInt]
theorem RN.put2 {w : World} {v : Value} {n g t : Nat} {a b : Value} (h : RN w v n) (hb : Blk w g t #[a, b]) (hni : ∀ x ∈ #[a, b], notInt x = true) (x y : Value) : RN ((w.setCell ⟨g, 0, none⟩ x).setCell ⟨g, 1, none⟩ y) v n :=
 Rd.apart h hb hni (by simp [World.setCell]) fun k _ hkg => by
  rw [Below.heap_setCell _ _ _ k hkg, Below.heap_setCell _ _ _ k hkg]
theorem end140 {fn : Func} {p : Tmp} {tmps : Array Value} {w W : World} {g : Nat} {x y : Value} {m n : Nat} (hres : fn.results = #[.cell p 94]) (hp : tmps.getD p undef = .pointer (some ⟨g, 0, none⟩)) (hb : Blk W g 94 #[.slice none 0 0, .slice none 0 0])
  (h1 : RN W x (m / n)) (h2 : RN W y (m % n)) (hg : w.heap.size ≤ g) (hbl : Below w.heap.size w W) : bodyPost Tryd.prog fn (fun e w' => PartsPost w m n e w') Exit.ret { tmps := tmps, defers := [] } ((W.setCell ⟨g, 0, none⟩ x).setCell ⟨g, 1, none⟩ y) :=
 ret140 hres hp ((hb.put 0 x).put 1 y) ⟨_, _, rfl, h1.put2 hb ni140 x y, h2.put2 hb ni140 x y, Below.setCell (Below.setCell hbl (p := ⟨g, 0, none⟩) hg x) (p := ⟨g, 1, none⟩) hg y⟩
theorem cmpI_lt {m n : Nat} (h : m < n) : cmpI m n = -1 := by unfold cmpI; rw [if_neg (by omega), if_pos h]
theorem cmpI_ge {m n : Nat} (h : n ≤ m) : decide (cmpI m n < 0) = false := by
 refine decide_eq_false ?_
 unfold cmpI
 split
 ·omega
 ·rw [if_neg (by omega)]; omega
theorem parts_end0 {D g V S : Nat} (h : D + g * V = S) (hq : S / V ≤ g) (hV : 0 < V) : g = S / V ∧ D = S % V := by
 have h1 : g ≤ S / V := by rw [Nat.le_div_iff_mul_le hV]; omega
 have h2 : g = S / V := by omega
 refine ⟨h2, ?_⟩
 have := Nat.div_add_mod S V
 rw [← h2, Nat.mul_comm] at this
 omega
theorem parts_end1 {D g V S L : Nat} (h : D + g * V = S + L) (hD : D < L) (hlt : g * V < S + V) (hq : S / V ≤ g) (hV : 0 < V) : 0 < g ∧ g - 1 = S / V ∧ D + V = S % V + L := by
 have hg : S / V < g := by rw [Nat.div_lt_iff_lt_mul hV]; omega
 have hgp : 0 < g := Nat.lt_of_le_of_lt (Nat.zero_le _) hg
 have h1 : (g - 1) * V ≤ S := by
  have : (g - 1) * V + V = g * V := by rw [← Nat.succ_mul]; congr 1; omega
  omega
 have h2 : g - 1 ≤ S / V := by rw [Nat.le_div_iff_mul_le hV]; exact h1
 have h3 : g - 1 = S / V := by omega
 refine ⟨by omega, h3, ?_⟩
 have := Nat.div_add_mod S V
 rw [← h3, Nat.mul_comm] at this
 have h4 : (g - 1) * V + V = g * V := by rw [← Nat.succ_mul]; congr 1; omega
 omega
theorem top_bit {z : Nat} (h : z < 4294967296) : bits .and .u32 (z : Int) 2147483648 = if z < 2147483648 then 0 else 2147483648 := by
 show IntKind.u32.wrap ((BitVec.ofInt 32 (z : Int) &&& BitVec.ofInt 32 2147483648).toNat : Int) = _
 rw [BitVec.toNat_and, BitVec.ofInt_natCast, BitVec.toNat_ofNat, Nat.mod_eq_of_lt (by omega), show (BitVec.ofInt 32 2147483648).toNat = 2 ^ 31 from rfl]
 by_cases hz : z < 2147483648
 ·have e : z &&& 2 ^ 31 = 0 := by
   refine Nat.eq_of_testBit_eq fun i => ?_
   rw [Nat.testBit_and, Nat.testBit_two_pow, Nat.zero_testBit]
   by_cases h31 : 31 = i
   ·subst h31; rw [Nat.testBit_lt_two_pow (by omega)]; rfl
   ·simp [h31]
  rw [if_pos hz, e]
  rfl
 ·have e : z &&& 2 ^ 31 = 2 ^ 31 := by
   refine Nat.eq_of_testBit_eq fun i => ?_
   rw [Nat.testBit_and, Nat.testBit_two_pow]
   by_cases h31 : 31 = i
   ·subst h31
    have : z.testBit 31 = true := by
     rw [Nat.testBit_eq_decide_div_mod_eq]
     exact decide_eq_true (by omega)
    rw [this]; rfl
   ·simp [h31]
  rw [if_neg hz, e]
  rfl
set_option maxHeartbeats 40000000 in
set_option maxRecDepth 100000 in
theorem rparts_calls (w : World) (v v2 : Value) (m n : Nat) (h : RN w v m) (h2 : RN w v2 n) (hm : wlen m ≤ 10000000000) (hn : wlen n ≤ 10000000000) (hn0 : n ≠ 0) :
  Calls Tryd.prog 61 #[v, v2] w fun e w' => PartsPost w m n e w' := by
 have HRN := Hd h
 have HRN2 := Hd h2
 obtain ⟨A, c, xs, rfl, hc, HX, _⟩ := h.opened
 obtain ⟨A2, c2, ys, rfl, hc2, HY, _⟩ := h2.opened
 clear h h2
 go_enter Tryd.func61, Tryd.ntmps61
 go_wp2_with fail
 have H0 := Hd (HS.one (w := w) #[.slice none 0 0, .slice none 0 0] 94)
 generalize w.alloc (.cells #[.slice none 0 0, .slice none 0 0] 94) = W0 at *
 refine (rorder_calls W0 _ _ m n (HRN.out.of_below H0.out.2) (HRN2.out.of_below H0.out.2) (by omega) (by omega)).mono ?_
 rintro e w1 ⟨rfl, hb⟩
 have H1 := Hd (H0.out.step hb)
 clear hb
 have HRN_1 := Hd (HRN.out.of_below H1.out.2)
 have HRN2_1 := Hd (HRN2.out.of_below H1.out.2)
 by_cases hlt : m < n
 ·have t0 : decide (cmpI m n < 0) = true := by rw [cmpI_lt hlt]; rfl
  have e0 := (H1.out.blk 0 rfl).cell (j := 0) rfl
  have e1 := (H1.out.blk 0 rfl).cell (j := 1) rfl
  have f0 := (H1.out.blk 0 rfl).frozen 0
  have f1 := (H1.out.blk 0 rfl).frozen 1
  have HLT := Hd hlt
  clear hlt
  go_wp2_with fail
  exact end140 Tryd.results61 rfl (H1.out.blk 0 rfl) (by rw [Nat.div_eq_of_lt HLT.out]; exact Rd.nil _) (by rw [Nat.mod_eq_of_lt HLT.out]; exact HRN_1.out) (Nat.le_refl _) H1.out.2
 have hle : n ≤ m := by omega
 have t0 := cmpI_ge hle
 have hyl : 0 < ys.length := by rw [HY.out]; exact wlen_pos.2 hn0
 have hRy : Rd w1 (.slice A2 ys.length c2) ys := by have := HRN2_1.out; unfold RN at this; rw [← HY.out] at this; exact this
 by_cases hy1 : ys.length = 1
 ·have q1 : ((ys.length : Int) == 1) = true := by rw [hy1]; rfl
  obtain ⟨g, o, rfl, hg, hcell⟩ := hRy.cell (j := 0) (by omega)
  rw [Nat.add_zero] at hcell
  have l2 : (0 : Int) < (ys.length : Int) := by omega
  obtain ⟨d, hd⟩ : ∃ d, d = nat ys 0 := ⟨_, rfl⟩
  rw [← hd] at hcell
  have hdn : d = n := by
   rw [hd, ← valN_dg n, ← HY.out]
   match ys, hy1 with
   | [y], _ => simp [nat, valN]
  have hd32 : d < 4294967296 := by rw [hd]; exact nat_lt hRy.wd 0
  have HDN := Hd hdn
  clear hd hRy hdn hlt
  go_wp2_with fail
  refine (rhalves_calls _ _ m d HRN_1.out (by omega) (by have := HDN.out; omega) hd32).mono ?_
  rintro e w3 ⟨v3, rfl, hv3, hb3⟩
  have H3 := Hd (H1.out.step hb3)
  have HV3 := Hd hv3
  obtain ⟨r, hr⟩ : ∃ r, r = m % d := ⟨_, rfl⟩
  rw [← hr]
  have hrl : r < 4294967296 := by
   rw [hr]
   exact Nat.lt_trans (Nat.mod_lt _ (by have := HDN.out; omega)) hd32
  have HRr := Hd hr
  obtain ⟨A5, c5, l5, rfl, _, _, _⟩ := hv3.opened
  clear hr hb3 hv3
  go_wp2_with fail
  have hone : Rd (w3.alloc (.cells #[.int .u32 (r : Int)] 44)) (.slice (some ⟨w3.heap.size, 0, none⟩) 1 1) [r] := Rd.of_arr (xs := [r]) (e := 44) (by show (World.alloc _ _).heap[w3.heap.size]? = _; rw [heap_alloc_new]; rfl) (fun x hx => by simp at hx; omega)
  refine (rtrim_rn hone (by simp)).mono ?_
  rintro e w4 ⟨v4, rfl, hv4, hb4⟩
  rw [show valN [r] = r by simp [valN]] at hv4
  have hbx := below_next (below_new w3 (.cells #[.int .u32 (r : Int)] 44)) hb4
  have HV34 := Hd (Rd.below HV3.out hbx)
  have H4 := Hd (H3.out.step hbx)
  have HV4 := Hd hv4
  obtain ⟨A6, c6, l6, rfl, _, _, _⟩ := hv4.opened
  clear hbx hb4 hv4
  have e0 := (H4.out.blk 0 rfl).cell (j := 0) rfl
  have e1 := (H4.out.blk 0 rfl).cell (j := 1) rfl
  have f0 := (H4.out.blk 0 rfl).frozen 0
  have f1 := (H4.out.blk 0 rfl).frozen 1
  go_wp2_with fail
  exact end140 Tryd.results61 rfl (H4.out.blk 0 rfl) (by have := HV34.out; rw [HDN.out] at this; exact this) (by have := HV4.out; rw [HRr.out, HDN.out] at this; exact this) (Nat.le_refl _) H4.out.2
 have q1 : ((ys.length : Int) == 1) = false := by
  have : (ys.length : Int) ≠ 1 := by omega
  simpa using this
 obtain ⟨g, o, rfl, hg, hcell⟩ := hRy.cell (j := ys.length - 1) (by omega)
 obtain ⟨d, hd⟩ : ∃ d, d = nat ys (ys.length - 1) := ⟨_, rfl⟩
 rw [← hd] at hcell
 have hd32 : d < 4294967296 := by rw [hd]; exact nat_lt hRy.wd _
 have hd0 : d ≠ 0 := by rw [hd, HY.out]; exact dg_top n hn0
 have HD := Hd hd
 have hyb : ys.length ≤ 10000000000 := by rw [HY.out]; exact hn
 obtain ⟨s, hs, _, hs1, hs2⟩ := zeros_norm hd0 hd32
 have k1 : IntKind.i64.wrap ((ys.length : Int) - 1) = (ys.length : Int) - 1 := IntWalk.i64_in _ (by omega)
 have k2 : (ys.length : Int) - 1 < (ys.length : Int) := by omega
 have k3 : ((ys.length : Int) - 1).toNat = ys.length - 1 := by omega
 have k4 : 0 ≤ (ys.length : Int) - 1 := by omega
 have k5 : (1 : Int) ≤ (ys.length : Int) := by omega
 have k6 : 1 ≤ ys.length := by omega
 have HS1 := Hd hs1
 have HS2 := Hd hs2
 clear hd hRy hlt hs1 hs2
 go_wp2_with fail
 go_loop [7] (fun v => ∃ k : Nat, k ≤ s ∧ v = .int .u64 (k : Int)) (fun v => s - (intOf v).toNat)
 case atStart => exact ⟨0, Nat.zero_le _, rfl⟩
 case round =>
  obtain ⟨k, hk, rfl⟩ := hrel
  have p1 : (0 : Int) ≤ (k : Int) := by omega
  have p2 : (k : Int).toNat = k := by omega
  obtain ⟨z, hz⟩ : ∃ z, z = d * 2 ^ k := ⟨_, rfl⟩
  have hzs : z * 2 ^ (s - k) = d * 2 ^ s := by rw [hz, Nat.mul_assoc, ← Nat.pow_add, Nat.add_sub_cancel' hk]
  have hz32 : z < 4294967296 := by
   have h1 : z * 1 ≤ z * 2 ^ (s - k) := Nat.mul_le_mul_left z (Nat.pow_pos (by decide))
   have := HS2.out
   omega
  have p3 : IntKind.u32.wrap ((d : Int) * 2 ^ k) = (z : Int) := by
   have e : (d : Int) * 2 ^ k = (z : Int) := by rw [hz]; push_cast; rfl
   rw [e, IntKind.wrap_u32]; omega
  have p4 := top_bit hz32
  by_cases hks : k < s
  ·have hzb : z < 2147483648 := by
    have h1 : z * 2 ≤ z * 2 ^ (s - k) := Nat.mul_le_mul_left z (by have := Nat.pow_le_pow_right (n := 2) (by decide) (show 1 ≤ s - k by omega); simpa using this)
    have := HS2.out
    omega
   rw [if_pos hzb] at p4
   have p5 : ((0 : Int) == 0) = true := rfl
   have p6 : IntKind.u64.wrap ((k : Int) + 1) = (k : Int) + 1 := IntWalk.u64_in _ (by omega)
   clear hz hzs
   go_wp2_with fail
   go_round
   case rel => exact ⟨k + 1, by omega, by go_num⟩
   case measure => simp [intOf]; omega
  ·obtain rfl : k = s := by omega
   have hzb : ¬ z < 2147483648 := by rw [hz]; have := HS1.out; omega
   rw [if_neg hzb] at p4
   have p5 : ((2147483648 : Int) == 0) = false := rfl
   clear hz hzs
   have w0 : (ys.length : Int) ≤ (ys.length : Int) + 1 := by omega
   go_wp2_with fail
   refine (rshift_calls _ _ n k HRN2_1.out (by omega) hs).mono ?_
   rintro e w5 ⟨BV, vr, rfl, hBV, hvl, hvw, hvv, hva, hb5⟩
   have H5 := Hd (H1.out.step hb5)
   have HRN_5 := Hd (HRN_1.out.of_below hb5)
   have hlw : wlen n = ys.length := by rw [HY.out]; rfl
   rw [hlw] at hvl ⊢
   have hBV5 := hva.lt
   have hrv := Rd.of_arr hva hvw
   rw [hvl] at hrv
   have hrv2 := Rd.takeC (c := ys.length + 1) (xs := vr) (by rw [hvl]; exact hrv) ys.length (by omega)
   obtain ⟨hsl, hst⟩ := shift_norm hn0 hs (by rw [← HY.out, ← HD.out]; exact HS1.out) (by rw [← HY.out, ← HD.out]; exact HS2.out)
   have htk : vr.take ys.length = dg (n * 2 ^ k) := by
    have hlt := lt_dg_len (n * 2 ^ k)
    rw [hsl, ← HY.out] at hlt
    have h0 : valN vr = valN (vr.take ys.length) + 4294967296 ^ ys.length * valN (vr.drop ys.length) := valN_split vr _ (by omega)
    rw [hvv] at h0
    have hd0 : valN (vr.drop ys.length) = 0 := by
     rcases Nat.eq_zero_or_pos (valN (vr.drop ys.length)) with h | h
     ·exact h
     ·have : 4294967296 ^ ys.length * 1 ≤ 4294967296 ^ ys.length * valN (vr.drop ys.length) := Nat.mul_le_mul_left _ h
      omega
    rw [hd0, Nat.mul_zero, Nat.add_zero] at h0
    have hw' := hvw.take ys.length
    have hl' : (vr.take ys.length).length = ys.length := by rw [List.length_take]; omega
    rw [h0]
    refine canon hw' (.inr fun hz => ?_)
    have h1 := valN_lt ((vr.take ys.length).take (ys.length - 1)) (hw'.take _)
    have h2 : valN (vr.take ys.length) = valN ((vr.take ys.length).take (ys.length - 1)) + 4294967296 ^ (ys.length - 1) * nat (vr.take ys.length) (ys.length - 1) := by
     have := valN_take_succ (vr.take ys.length) (ys.length - 1) (by omega)
     rw [Nat.sub_add_cancel (by omega), List.take_take, Nat.min_self] at this
     exact this
    rw [hl'] at hz
    rw [hz, Nat.mul_zero, Nat.add_zero] at h2
    rw [List.length_take, hl', Nat.min_eq_left (by omega), ← h2, ← h0] at h1
    have h3 := wlen_lower (n := n * 2 ^ k) (Nat.mul_ne_zero hn0 (Nat.ne_of_gt (Nat.pow_pos (by decide))))
    have h4 : wlen (n * 2 ^ k) = ys.length := by unfold wlen; rw [hsl, HY.out]
    rw [h4] at h3
    omega
   rw [htk] at hrv2
   obtain ⟨vs, hvs⟩ : ∃ vs, vs = dg (n * 2 ^ k) := ⟨_, rfl⟩
   rw [← hvs] at hrv2 hsl hst
   rw [← HY.out] at hsl hst
   have HVS := Hd hvs
   have HRV5 := Hd hrv2
   have hVv : valN vs = n * 2 ^ k := by rw [hvs, valN_dg]
   have HVv := Hd hVv
   have HST := Hd hst
   have HSL := Hd hsl
   have HBV := Hd hBV
   clear hb5 hva hrv hrv2 hvs hVv hst hsl htk hvl hvw hvv hlw hBV
   go_wp2_with fail
   refine (rshift_calls _ _ m k HRN_5.out (by omega) hs).mono ?_
   rintro e w6 ⟨BU, us, rfl, hBU, hul, huw, huv, hua, hb6⟩
   have H6 := Hd (H5.out.step hb6)
   have HRV6 := Hd (HRV5.out.below hb6)
   have HUV := Hd huv
   have HUL := Hd hul
   have HUW := Hd huw
   have HUA6 := Hd hua
   have hlm : wlen m = xs.length := by rw [HX.out]; rfl
   have hBUV : BU ≠ BV := by omega
   have hBV6 : BV < w6.heap.size := Nat.lt_of_lt_of_le hBV5 hb6.size
   have hBU6 := hua.lt
   have hly2 : 2 ≤ ys.length := by omega
   have hlxy : ys.length ≤ xs.length := by rw [HX.out, HY.out]; exact wlen_mono hle
   have hlx : xs.length ≤ 10000000000 := by rw [HX.out]; exact hm
   have hBU0 : w.heap.size < BU := by have := (H5.out.blk 0 rfl).lt; omega
   have hBV0 : w.heap.size < BV := by have := (H1.out.blk 0 rfl).lt; have := HBV.out; omega
   rw [hlm] at HUL ⊢
   clear hb6 huv hul huw hua hlm
   obtain ⟨L, hL⟩ : ∃ L, L = xs.length + 1 := ⟨_, rfl⟩
   obtain ⟨K, hK⟩ : ∃ K, K + ys.length = L := ⟨L - ys.length, by omega⟩
   rw [← hL] at HUL ⊢
   have wl0 : IntKind.i64.wrap ((xs.length : Int) - (ys.length : Int)) = (K : Int) - 1 := by rw [IntWalk.i64_in _ (by omega)]; omega
   have wl : IntKind.i64.wrap ((K : Int) - 1 + 1) = (K : Int) := by rw [IntWalk.i64_in _ (by omega)]; omega
   have hmk := make_words 25 Tryd.underlying25 K (by omega)
   have HLL := Hd hL
   have hLb : L ≤ 10000000001 := by omega
   clear hL
   go_wp2_with fail
   clear hmk wl
   have hw7 := gb_alloc (gb_refl w6 none) (zw K)
   have hq7 := zw_arr w6 K
   generalize w6.alloc (zw K) = W7 at *
   obtain ⟨V, hV⟩ : ∃ V, V = valN vs := ⟨_, rfl⟩
   have HV := Hd hV
   have hV0 : V = n * 2 ^ k := by rw [hV]; exact HVv.out
   have HV0 := Hd hV0
   have hVlt : V < 4294967296 ^ ys.length := by
    have := valN_lt vs HRV6.out.wd
    rwa [← hV, HSL.out] at this
   have HVLT := Hd hVlt
   have hVpos : 0 < V := by rw [hV0]; exact Nat.mul_pos (by omega) (Nat.pow_pos (by decide))
   have hVge : 2147483648 * 4294967296 ^ (ys.length - 1) ≤ V := by
    have := top_ge (V := V) (lb := ys.length - 1) (by rw [hV0, ← HVS.out, HSL.out]; omega) (by rw [hV0, ← HVS.out]; exact HST.out)
    exact this
   have hm0 : m * 2 ^ k < V * 4294967296 ^ K := shift_first hs hVge K xs.length (by have := lt_dg_len m; rw [← HX.out] at this; exact this) (by have := HLL.out; omega)
   have HM0 := Hd hm0
   have hBUQ : BU ≠ w6.heap.size := by omega
   have hBVQ : BV ≠ w6.heap.size := by omega
   have hBRQ : w.heap.size < w6.heap.size := by omega
   clear hV hV0 hVlt hVge hm0 hle hyl hy1 q1 t0 hg hcell hd32 hd0 k1 k2 k3 k4 k5 k6 p1 p2 p3 p4 p5 hzb wl0 w0
   have HB7 : Hid (w.grownBy W7 none) := gb_trans (grown_of_below H6.out.2 none) hw7
   have hbk7 : Blk W7 w.heap.size 94 #[.slice none 0 0, .slice none 0 0] := (hw7.block _ (H6.out.blk 0 rfl).lt (by simp)).trans (H6.out.blk 0 rfl)
   go_loopg [12] K (fun gk vi wr => ∃ (U qs : List Nat), gk ≤ K ∧ vi = .int .i64 ((gk : Int) - 1) ∧ U.length = L ∧ Wd U ∧ qs.length = K - gk ∧ Wd qs ∧ valN U < V * 4294967296 ^ gk ∧ m * 2 ^ k = valN U + V * 4294967296 ^ gk * valN qs ∧ Arr .u32 wr BU 44 (ints U) ∧ Arr .u32 wr w6.heap.size 44 (ints (List.replicate gk 0 ++ qs)) ∧ Rd wr (.slice (some ⟨BV, 0, none⟩) ys.length (ys.length + 1)) vs ∧ Blk wr w.heap.size 94 #[.slice none 0 0, .slice none 0 0] ∧ w.grownBy wr none)
   case atStart =>
    exact ⟨us, [], Nat.le_refl _, by go_num, HUL.out, HUW.out, by simp, (fun x hx => (by cases hx)), by rw [HUV.out]; exact HM0.out, by rw [HUV.out]; simp [valN], HUA6.out.grown hw7 (by simp), by rw [List.append_nil]; exact hq7, HRV6.out.gb hw7, hbk7, HB7.out⟩
   case round =>
    obtain ⟨U, qs, hk', rfl, hUl, hUw, hql, hqw, hUlt, hM, hua, hqa, hrv, hbk, hgb⟩ := hrel
    have HUl := Hd hUl
    have HUw := Hd hUw
    have HQl := Hd hql
    have HQw := Hd hqw
    have HUlt := Hd hUlt
    have HM := Hd hM
    have HUA7 := Hd hua
    have HQA7 := Hd hqa
    have HRV7 := Hd hrv
    have HBK7 := Hd hbk
    have HG7 := Hd hgb
    clear hUl hUw hql hqw hUlt hM hua hqa hrv hbk hgb hbk7 hw7 hq7
    obtain ⟨wo, rfl⟩ : ∃ wo : World, wo = wr := ⟨_, rfl⟩
    by_cases h0 : 0 < gk
    ·obtain ⟨j, rfl⟩ : ∃ j, gk = j + 1 := ⟨gk - 1, by omega⟩
     rw [show ((j + 1 : Nat) : Int) - 1 = (j : Int) by omega]
     have hjl : j + (ys.length + 1) ≤ U.length := by rw [HUl.out]; omega
     obtain ⟨c1, c2', c3⟩ := div_cut HUw.out hjl HUlt.out HVLT.out
     obtain ⟨P, hP⟩ : ∃ P, P = U.take j := ⟨_, rfl⟩
     obtain ⟨seg, hsg⟩ : ∃ seg, seg = (U.drop j).take (ys.length + 1) := ⟨_, rfl⟩
     obtain ⟨Z, hZ⟩ : ∃ Z, Z = U.drop (j + (ys.length + 1)) := ⟨_, rfl⟩
     have hU : U = P ++ seg ++ Z := by
      rw [hP, hsg, hZ, ← List.drop_drop, List.append_assoc, List.take_append_drop, List.take_append_drop]
     have hPl : P.length = j := by rw [hP, List.length_take]; omega
     have hsl : seg.length = ys.length + 1 := by rw [hsg, List.length_take, List.length_drop]; omega
     have hPw : Wd P := by rw [hP]; exact HUw.out.take _
     have hsw : Wd seg := by rw [hsg]; exact (HUw.out.drop _).take _
     have hZw : Wd Z := by rw [hZ]; exact HUw.out.drop _
     rw [← hsg] at c1 c2'
     rw [← hP] at c2'
     rw [← hZ] at c3
     obtain ⟨S, hS⟩ : ∃ S, S = valN seg := ⟨_, rfl⟩
     rw [← hS] at c1 c2'
     have HUA8 : Hid (Arr .u32 wo BU 44 (ints (P ++ seg ++ Z))) := by have := HUA7.out; rw [hU] at this; exact this
     obtain ⟨lowV, hlv, hVe⟩ := valN_top2 (v := vs) HRV6.out.wd (by rw [HSL.out]; exact hly2)
     obtain ⟨lowS, hls, hSe⟩ := valN_top3 hsw ys.length hly2 hsl
     rw [HSL.out] at hlv hVe
     rw [← HV.out] at hVe
     rw [← hS] at hSe
     obtain ⟨v1, hv1⟩ : ∃ v1, v1 = nat vs (ys.length - 1) := ⟨_, rfl⟩
     obtain ⟨v2, hv2⟩ : ∃ v2, v2 = nat vs (ys.length - 2) := ⟨_, rfl⟩
     obtain ⟨s0, hs0⟩ : ∃ s0, s0 = nat seg (ys.length - 2) := ⟨_, rfl⟩
     obtain ⟨s1, hs1⟩ : ∃ s1, s1 = nat seg (ys.length - 1) := ⟨_, rfl⟩
     obtain ⟨s2, hs2⟩ : ∃ s2, s2 = nat seg ys.length := ⟨_, rfl⟩
     have b1 : v1 < 4294967296 := by rw [hv1]; exact nat_lt HRV6.out.wd _
     have b2 : v2 < 4294967296 := by rw [hv2]; exact nat_lt HRV6.out.wd _
     have b3 : s0 < 4294967296 := by rw [hs0]; exact nat_lt hsw _
     have b4 : s1 < 4294967296 := by rw [hs1]; exact nat_lt hsw _
     have b5 : s2 < 4294967296 := by rw [hs2]; exact nat_lt hsw _
     have htop : 2147483648 ≤ v1 := by rw [hv1]; exact HST.out
     rw [← hv1, ← hv2] at hVe
     rw [← hs0, ← hs1, ← hs2] at hSe
     obtain ⟨top, htp⟩ : ∃ top, top = s2 * 4294967296 + s1 := ⟨_, rfl⟩
     rw [← htp] at hSe
     have hs2v : s2 ≤ v1 := head_le hVe hlv b2 (by rw [hSe, htp]) c1
     have htop64 : top < 18446744073709551616 := by omega
     have cu2 : wo.cell? ⟨BU, j + ys.length, none⟩ = some (.int .u32 (s2 : Int)) := by rw [hs2]; exact arr_cell HUA8.out hPl (by omega)
     have cu1 : wo.cell? ⟨BU, j + (ys.length - 1), none⟩ = some (.int .u32 (s1 : Int)) := by rw [hs1]; exact arr_cell HUA8.out hPl (by omega)
     have cv1 : wo.cell? ⟨BV, ys.length - 1, none⟩ = some (.int .u32 (v1 : Int)) := by
      have := Rd.cell' (c := ys.length + 1) (by rw [HSL.out]; exact HRV7.out) rfl (show ys.length - 1 < vs.length by rw [HSL.out]; omega)
      rw [Nat.zero_add, ← hv1] at this
      exact this
     obtain ⟨g0, r0, hg0, hr0⟩ : ∃ g0 r0, top / v1 = g0 ∧ top % v1 = r0 := ⟨_, _, rfl, rfl⟩
     have hgr0 : g0 * v1 + r0 = top := by rw [← hg0, ← hr0, Nat.mul_comm]; exact Nat.div_add_mod top v1
     have hr0v : r0 < v1 := by rw [← hr0]; exact Nat.mod_lt _ (by omega)
     have hq0 : S / V ≤ g0 := quot_first hVe hSe hls b3 hgr0 hr0v
     obtain ⟨⟨df1, df2⟩, df3, df4⟩ := div_facts hg0 hr0
     have hgl0 : g0 ≤ top := by rw [← hg0]; exact Nat.div_le_self _ _
     have hor := or_word s2 s1 b5 b4
     rw [← htp] at hor
     have HC1 := Hd c1
     have HC2 := Hd c2'
     have HC3 := Hd c3
     have HSGL := Hd hsl
     have HPl := Hd hPl
     have HPw := Hd hPw
     have HZw := Hd hZw
     have HSW := Hd hsw
     have HS := Hd hS
     have HVE := Hd hVe
     have HSE := Hd hSe
     have HTP := Hd htp
     have HV1 := Hd hv1
     have HV2 := Hd hv2
     have HS0 := Hd hs0
     have HS2 := Hd hs2
     have HGR := Hd hgr0
     have HQ0 := Hd hq0
     have HLV := Hd hlv
     have HLS := Hd hls
     clear c1 c2' c3 hP hsg hZ hU hPl hsl hPw hsw hZw hjl hS hVe hSe htp hv1 hv2 hs0 hs1 hs2 hgr0 hq0 hlv hls hg0 hr0
     have n1 : (j : Int) ≥ 0 := by omega
     have n2 : (j : Int).toNat = j := by omega
     have i1 : IntKind.i64.wrap ((j : Int) + (ys.length : Int)) = (j : Int) + (ys.length : Int) := IntWalk.i64_in _ (by omega)
     have i2 : IntKind.i64.wrap ((j : Int) + (ys.length : Int) - 1) = (j : Int) + (ys.length : Int) - 1 := IntWalk.i64_in _ (by omega)
     have i3 : ((j : Int) + (ys.length : Int)).toNat = j + ys.length := by omega
     have i4 : ((j : Int) + (ys.length : Int) - 1).toNat = j + (ys.length - 1) := by omega
     have i5 : (0 : Int) ≤ (j : Int) + (ys.length : Int) := by omega
     have i6 : (0 : Int) ≤ (j : Int) + (ys.length : Int) - 1 := by omega
     have i7 : (j : Int) + (ys.length : Int) < (L : Int) := by omega
     have i8 : (j : Int) + (ys.length : Int) - 1 < (L : Int) := by omega
     have i9 : IntKind.i64.wrap ((ys.length : Int) - 1) = (ys.length : Int) - 1 := IntWalk.i64_in _ (by omega)
     have i10 : ((ys.length : Int) - 1).toNat = ys.length - 1 := by omega
     have i11 : (0 : Int) ≤ (ys.length : Int) - 1 := by omega
     have i12 : (ys.length : Int) - 1 < (ys.length : Int) := by omega
     have i13 : (1 : Int) ≤ (j : Int) + (ys.length : Int) := by omega
     have i14 : (1 : Int) ≤ (ys.length : Int) := by omega
     have i15 : j + ys.length < L := by omega
     have i16 : 1 ≤ ys.length := by omega
     have w1' : IntKind.u64.wrap (s2 : Int) = (s2 : Int) := IntWalk.u64_in _ (by omega)
     have w2 : IntKind.u64.wrap (s1 : Int) = (s1 : Int) := IntWalk.u64_in _ (by omega)
     have w3 : IntKind.u64.wrap ((s2 : Int) * 4294967296) = (s2 : Int) * 4294967296 := IntWalk.u64_in _ (by omega)
     have w4 : IntKind.u64.wrap (v1 : Int) = (v1 : Int) := IntWalk.u64_in _ (by omega)
     have w5 : IntKind.u64.wrap (g0 : Int) = (g0 : Int) := IntWalk.u64_in _ (by omega)
     have w6' : IntKind.u64.wrap (r0 : Int) = (r0 : Int) := IntWalk.u64_in _ (by omega)
     have d0 : ((v1 : Int) == 0) = false := by
      have : (v1 : Int) ≠ 0 := by omega
      simpa using this
     have d1 : (v1 : Int) ≠ 0 := by omega
     go_wp2_with fail
     go_quiet (fail)
     go_upto_block 4 with (fail)
     clear cu2 cu1 cv1 i1 i2 i3 i4 i5 i6 i7 i8 i9 i10 i11 i12 i13 i14 i15 i16 w1' w2 w3 hor df1 df2 df3 df4
     go_cut [14] (fun vg wc => ∃ gu : Nat, vg = .int .u64 (gu : Int) ∧ gu < 4294967296 ∧ Hid (S / V ≤ gu) ∧ Hid (gu * V < S + V) ∧ wo.grownBy wc none)
     case first =>
      go_wp2_with fail
      go_loopw [14, 15] (fun vg vr wz => ∃ (gu r : Nat), vg = .int .u64 (gu : Int) ∧ vr = .int .u64 (r : Int) ∧ gu * v1 + r = top ∧ S / V ≤ gu ∧ r < 4294967296 ∧ wo.grownBy wz none) (fun vg _ _ => (intOf vg).toNat)
      case atStart => exact ⟨g0, r0, rfl, rfl, HGR.out, HQ0.out, by omega, gb_drewN (gb_refl wo none) _⟩
      case round =>
       obtain ⟨gu, r, rfl, rfl, hgr, hq, hrb, hgb⟩ := hrel
       have HUX := Hd (HUA8.out.grown hgb (by simp))
       have HGX := Hd hgb
       have cu0 : wr.cell? ⟨BU, j + (ys.length - 2), none⟩ = some (.int .u32 (s0 : Int)) := by rw [HS0.out]; exact arr_cell HUX.out HPl.out (by rw [HSGL.out]; omega)
       have hcv := HRV7.out.gb hgb
       have cv2 : wr.cell? ⟨BV, ys.length - 2, none⟩ = some (.int .u32 (v2 : Int)) := by
        have := Rd.cell' (c := ys.length + 1) (by rw [HSL.out]; exact hcv) rfl (show ys.length - 2 < vs.length by rw [HSL.out]; omega)
        rw [Nat.zero_add, ← HV2.out] at this
        exact this
       have cv1 : wr.cell? ⟨BV, ys.length - 1, none⟩ = some (.int .u32 (v1 : Int)) := by
        have := Rd.cell' (c := ys.length + 1) (by rw [HSL.out]; exact hcv) rfl (show ys.length - 1 < vs.length by rw [HSL.out]; omega)
        rw [Nat.zero_add, ← HV1.out] at this
        exact this
       have hgul : gu ≤ top := by
        have : gu * 1 ≤ gu * v1 := Nat.mul_le_mul_left gu (by omega)
        omega
       have i1 : IntKind.i64.wrap ((j : Int) + (ys.length : Int)) = (j : Int) + (ys.length : Int) := IntWalk.i64_in _ (by omega)
       have i2 : IntKind.i64.wrap ((j : Int) + (ys.length : Int) - 2) = (j : Int) + (ys.length : Int) - 2 := IntWalk.i64_in _ (by omega)
       have i4 : ((j : Int) + (ys.length : Int) - 2).toNat = j + (ys.length - 2) := by omega
       have i6 : (0 : Int) ≤ (j : Int) + (ys.length : Int) - 2 := by omega
       have i8 : (j : Int) + (ys.length : Int) - 2 < (L : Int) := by omega
       have i9 : IntKind.i64.wrap ((ys.length : Int) - 1) = (ys.length : Int) - 1 := IntWalk.i64_in _ (by omega)
       have i10 : ((ys.length : Int) - 1).toNat = ys.length - 1 := by omega
       have i11 : (0 : Int) ≤ (ys.length : Int) - 1 := by omega
       have i12 : (ys.length : Int) - 1 < (ys.length : Int) := by omega
       have i14 : (1 : Int) ≤ (ys.length : Int) := by omega
       have j9 : IntKind.i64.wrap ((ys.length : Int) - 2) = (ys.length : Int) - 2 := IntWalk.i64_in _ (by omega)
       have j10 : ((ys.length : Int) - 2).toNat = ys.length - 2 := by omega
       have j11 : (0 : Int) ≤ (ys.length : Int) - 2 := by omega
       have j12 : (ys.length : Int) - 2 < (ys.length : Int) := by omega
       have j14 : (2 : Int) ≤ (ys.length : Int) := by omega
       have j13 : (2 : Int) ≤ (j : Int) + (ys.length : Int) := by omega
       have w7 : IntKind.u64.wrap (v2 : Int) = (v2 : Int) := IntWalk.u64_in _ (by omega)
       have w8 : IntKind.u64.wrap (s0 : Int) = (s0 : Int) := IntWalk.u64_in _ (by omega)
       have e1 : IntKind.u64.wrap ((r : Int) * 4294967296) = (r : Int) * 4294967296 := IntWalk.u64_in _ (by omega)
       have hor2 := or_word r s0 hrb b3
       obtain ⟨z, hz⟩ : ∃ z, z = r * 4294967296 + s0 := ⟨_, rfl⟩
       rw [← hz] at hor2
       obtain ⟨r2, hr2⟩ : ∃ r2, r2 = r + v1 := ⟨_, rfl⟩
       have e2 : IntKind.u64.wrap ((r : Int) + (v1 : Int)) = (r2 : Int) := by rw [IntWalk.u64_in _ (by omega)]; omega
       have HZ := Hd hz
       have HGRR := Hd hgr
       have HQQ0 := Hd hq
       have down : ∀ g1, gu = g1 + 1 → S / V ≤ g1 → (4294967296 ≤ r2 → g1 < 4294967296 ∧ g1 * V < S + V) ∧ g1 * v1 + r2 = top := fun g1 hg1 hq1 => by
        have hgr1 : g1 * v1 + r2 = top := by
         have : gu * v1 = g1 * v1 + v1 := by rw [hg1]; exact Nat.succ_mul g1 v1
         omega
        refine ⟨fun hr2b => ?_, hgr1⟩
        have hgq : g1 < 4294967296 := guess_small hgr1 HTP.out b4 hs2v hr2b
        exact ⟨hgq, guess_pass HVE.out HLV.out HSE.out (by omega) hgr1 hgq (by
         have := Nat.mul_le_mul (show g1 ≤ 4294967295 by omega) (show v2 ≤ 4294967295 by omega)
         omega)⟩
       have HDN := Hd down
       clear hz hgb hcv down
       by_cases hbig : 4294967295 < gu
       ·have t1 : decide ((gu : Int) > 4294967295) = true := decide_eq_true (by omega)
        obtain ⟨g1, hg1⟩ : ∃ g1, gu = g1 + 1 := ⟨gu - 1, by omega⟩
        have e3 : IntKind.u64.wrap ((gu : Int) - 1) = (g1 : Int) := by rw [IntWalk.u64_in _ (by omega)]; omega
        have hq1 : S / V ≤ g1 := by
         have := quot_small HC1.out
         omega
        obtain ⟨h1, h2⟩ := HDN.out g1 hg1 hq1
        have HH1 := Hd h1
        have HH2 := Hd h2
        have HQ1 := Hd hq1
        have hglt : g1 < gu := by omega
        clear hgr hq hr2 hg1 h1 h2 hq1
        by_cases hr2b : 4294967295 < r2
        ·have t3 : decide ((r2 : Int) > 4294967295) = true := decide_eq_true (by omega)
         go_wp2_with fail
         go_quiet (fail)
         go_wp2_with fail
         go_meet
         case rel => exact ⟨g1, rfl, (HH1.out (by omega)).1, HQ1.out, (HH1.out (by omega)).2, gb_drewN HGX.out _⟩
        ·have t3 : decide ((r2 : Int) > 4294967295) = false := decide_eq_false (by omega)
         go_wp2_with fail
         go_quiet (fail)
         go_wp2_with fail
         go_roundw
         case rel => exact ⟨g1, r2, rfl, rfl, HH2.out, HQ1.out, by omega, gb_drewN HGX.out _⟩
         case measure => simp [intOf]; omega
       ·have t1 : decide ((gu : Int) > 4294967295) = false := decide_eq_false (by omega)
        obtain ⟨p, hp⟩ : ∃ p, p = gu * v2 := ⟨_, rfl⟩
        have e4 : IntKind.u64.wrap ((gu : Int) * (v2 : Int)) = (p : Int) := mul_wrap (by omega) b2 hp
        by_cases hmz : z < p
        ·have t2 : decide ((p : Int) > (z : Int)) = true := decide_eq_true (by omega)
         have hmpos : 0 < gu := by
          rcases Nat.eq_zero_or_pos gu with h | h
          ·rw [h, Nat.zero_mul] at hp; omega
          ·exact h
         obtain ⟨g1, hg1⟩ : ∃ g1, gu = g1 + 1 := ⟨gu - 1, by omega⟩
         have e3 : IntKind.u64.wrap ((gu : Int) - 1) = (g1 : Int) := by rw [IntWalk.u64_in _ (by omega)]; omega
         have hq1 : S / V ≤ g1 := by
          have h1 := guess_down HVE.out HSE.out HLS.out HGRR.out (by rw [← hp, ← HZ.out]; exact hmz)
          have h2 : S / V < gu := Nat.div_lt_of_lt_mul (by rw [Nat.mul_comm]; exact h1)
          omega
         obtain ⟨h1, h2⟩ := HDN.out g1 hg1 hq1
         have HH1 := Hd h1
         have HH2 := Hd h2
         have HQ1 := Hd hq1
         have hglt : g1 < gu := by omega
         clear hgr hq hr2 hg1 h1 h2 hq1 hp
         by_cases hr2b : 4294967295 < r2
         ·have t3 : decide ((r2 : Int) > 4294967295) = true := decide_eq_true (by omega)
          go_wp2_with fail
          go_quiet (fail)
          go_wp2_with fail
          go_meet
          case rel => exact ⟨g1, rfl, (HH1.out (by omega)).1, HQ1.out, (HH1.out (by omega)).2, gb_drewN HGX.out _⟩
         ·have t3 : decide ((r2 : Int) > 4294967295) = false := decide_eq_false (by omega)
          go_wp2_with fail
          go_quiet (fail)
          go_wp2_with fail
          go_roundw
          case rel => exact ⟨g1, r2, rfl, rfl, HH2.out, HQ1.out, by omega, gb_drewN HGX.out _⟩
          case measure => simp [intOf]; omega
        ·have t2 : decide ((p : Int) > (z : Int)) = false := decide_eq_false (by omega)
         have HQ2 : Hid (gu * V < S + V) := guess_pass HVE.out HLV.out HSE.out (by omega) HGRR.out (by omega) (by rw [← hp, ← HZ.out]; omega)
         have hgq : gu < 4294967296 := by omega
         clear hp hgr hq hr2
         go_wp2_with fail
         go_quiet (fail)
         go_wp2_with fail
         go_meet
         case rel => exact ⟨gu, rfl, hgq, HQQ0.out, HQ2.out, gb_drewN HGX.out _⟩
     case rest =>
      obtain ⟨gu, rfl, hgu, HQ0', HQ1', hgb⟩ := hcut
      have HUX := Hd (HUA8.out.grown hgb (by simp))
      have HVX := Hd (HRV7.out.gb hgb)
      have HGX := Hd hgb
      have hNE : ∀ g' : Nat, (Value.slice (some ⟨BV, 0, none⟩) ys.length (ys.length + 1)).ownBlock = some g' → some g' ≠ some BU := fun g' he e => by
       simp [Value.ownBlock] at he
       injection e with e
       omega
      have HNE := Hd hNE
      have FIN : ∀ (seg' : List Nat) (wz : World), seg'.length = ys.length + 1 → Wd seg' → valN seg' = S % V → Arr .u32 wz BU 44 (ints (P ++ seg' ++ Z)) → wo.grownBy wz (some BU) →
        (∃ old, wz.cell? ⟨w6.heap.size, j, none⟩ = some (.int .u32 old) ∧ wz.frozen? ⟨w6.heap.size, j, none⟩ = false) ∧ ∀ qd : Nat, qd = S / V →
         (∃ (U' qs' : List Nat), j ≤ K ∧ Value.int .i64 ((j : Int) - 1) = .int .i64 ((j : Int) - 1) ∧ U'.length = L ∧ Wd U' ∧ qs'.length = K - j ∧ Wd qs' ∧ valN U' < V * 4294967296 ^ j ∧ m * 2 ^ k = valN U' + V * 4294967296 ^ j * valN qs' ∧ Arr .u32 (wz.setCell ⟨w6.heap.size, j, none⟩ (.int .u32 (qd : Int))) BU 44 (ints U') ∧ Arr .u32 (wz.setCell ⟨w6.heap.size, j, none⟩ (.int .u32 (qd : Int))) w6.heap.size 44 (ints (List.replicate j 0 ++ qs')) ∧ Rd (wz.setCell ⟨w6.heap.size, j, none⟩ (.int .u32 (qd : Int))) (.slice (some ⟨BV, 0, none⟩) ys.length (ys.length + 1)) vs ∧ Blk (wz.setCell ⟨w6.heap.size, j, none⟩ (.int .u32 (qd : Int))) w.heap.size 94 #[.slice none 0 0, .slice none 0 0] ∧ w.grownBy (wz.setCell ⟨w6.heap.size, j, none⟩ (.int .u32 (qd : Int))) none) := by
       intro seg' wz hsl' hsw' hsv' hua' hgb'
       have hqa8 := HQA7.out.grown hgb' (by intro e; injection e with e; omega)
       have hrep : List.replicate (j + 1) 0 ++ qs = List.replicate j 0 ++ 0 :: qs := by rw [List.replicate_succ', List.append_assoc]; rfl
       rw [hrep] at hqa8
       refine ⟨⟨_, hqa8.cell j (by rw [ints_length]; simp), hqa8.frozen j⟩, fun qd hqd => ?_⟩
       have hqdb : qd < 4294967296 := by rw [hqd]; exact quot_small HC1.out
       have hsv : S = V * qd + valN seg' := by rw [hsv', hqd]; exact (Nat.div_add_mod _ _).symm
       have hvU : valN (P ++ seg' ++ Z) = valN P + 4294967296 ^ j * valN seg' := by
        rw [valN_append, HC3.out, Nat.mul_zero, Nat.add_zero, valN_append, HPl.out]
       have hsl : valN seg' < V := by rw [hsv']; exact Nat.mod_lt _ hVpos
       refine ⟨P ++ seg' ++ Z, qd :: qs, by omega, rfl, ?_, (HPw.out.append hsw').append HZw.out, by rw [List.length_cons, HQl.out]; omega, ?_, ?_, ?_, hua'.other (by simpa using hBUQ) _, ?_, ?_, ?_, gb_set (gb_row HG7.out hgb' (Nat.le_of_lt hBU0)) (.inl (Nat.le_of_lt hBRQ)) _⟩
       ·have h0 := HUl.out
        rw [show U.length = (P ++ seg ++ Z).length by
         have h1 := HUA7.out
         have h2 := HUA8.out
         have e := h1.symm.trans h2
         injection e with e
         injection e with e
         have e3 := congrArg Array.size e
         simpa [nums, ints] using e3] at h0
        simp only [List.length_append] at h0 ⊢
        have h2 := HSGL.out
        omega
       ·intro y hy
        rcases List.mem_cons.1 hy with rfl | hy
        ·exact hqdb
        ·exact HQw.out y hy
       ·rw [hvU]
        have hP0 := valN_lt P HPw.out
        rw [HPl.out] at hP0
        exact div_less hP0 hsl
       ·rw [hvU, valN]
        have := HM.out
        rw [HC2.out] at this
        exact div_round this hsv
       ·have := hqa8.set j (qd : Int)
        rw [ints_set, List.set_append_right _ _ (by simp)] at this
        simp only [List.length_replicate, Nat.sub_self, List.set_cons_zero] at this
        exact this
       ·refine (HRV7.out.grown hgb' HNE.out).move (by simp [World.setCell]) fun b hb _ => ?_
        simp [Value.ownBlock] at hb
        exact Below.heap_setCell wz _ _ b (by intro e; simp at e; omega)
       ·exact Blk.other ((hgb'.block _ HBK7.out.lt (by intro e; injection e with e; omega)).trans HBK7.out) (by simp; omega) _
      have HFIN := Hd FIN
      have hwk : IntKind.i64.wrap ((j : Int) - 1) = (j : Int) - 1 := IntWalk.i64_in _ (by omega)
      have hjK : (j : Int) < (K : Int) := by omega
      have hjK2 : j < K := by omega
      have gw : IntKind.u64.wrap (gu : Int) = (gu : Int) := IntWalk.u64_in _ (by omega)
      clear hgb hNE FIN
      go_wp2_with fail
      go_loopw [16, 17, 18] (fun vc vb vi wr => ∃ (i b cy : Nat) (dn : List Nat), i ≤ ys.length + 1 ∧ vi = .int .i64 (i : Int) ∧ vb = .int .u64 (b : Int) ∧ vc = .int .u64 (cy : Int) ∧ b ≤ 1 ∧ cy < 4294967296 ∧ (i = ys.length + 1 → cy = 0) ∧ dn.length = i ∧ Wd dn ∧
        valN dn + gu * valN (vs.take i) = valN (seg.take i) + (cy + b) * 4294967296 ^ i ∧ Arr .u32 wr BU 44 (ints (P ++ (dn ++ seg.drop i) ++ Z)) ∧ wo.grownBy wr (some BU)) (fun _ _ vi _ => ys.length + 1 - (intOf vi).toNat)
      case atStart => exact ⟨0, 0, 0, [], by omega, rfl, rfl, rfl, by omega, by omega, by omega, rfl, (fun x hx => (by cases hx)), by simp [valN], by rw [List.nil_append, List.drop_zero]; exact HUX.out, gb_none HGX.out⟩
      case round =>
       obtain ⟨i, b, cy, dn, hi, rfl, rfl, rfl, hb, hcy, hcy0, hdl, hdw, hval, harr, hgb⟩ := hrel
       have HD := Hd hdw
       have HVA := Hd hval
       have HA := Hd harr
       have HG := Hd hgb
       have HL := Hd hdl
       have HCY0 := Hd hcy0
       have hml : (dn ++ seg.drop i).length = ys.length + 1 := by rw [List.length_append, List.length_drop, HL.out, HSGL.out]; omega
       clear hdw hval harr hdl hcy0
       by_cases hin : i ≤ ys.length
       ·have hcv := (HRV7.out.grown hgb HNE.out)
        clear hgb
        obtain ⟨x, hx⟩ : ∃ x, x = nat seg i := ⟨_, rfl⟩
        have hxb : x < 4294967296 := by rw [hx]; exact nat_lt HSW.out _
        have cu : wr.cell? ⟨BU, j + i, none⟩ = some (.int .u32 (x : Int)) := by
         have := arr_cell HA.out HPl.out (k := i) (by rw [hml]; omega)
         rw [nat_pass _ _ _ HL.out, ← hx] at this
         exact this
        have fu := HA.out.frozen (j + i)
        have HX' := Hd hx
        clear hx
        have n1 : (i : Int) ≤ (ys.length : Int) := by omega
        have n2 : (i : Int).toNat = i := by omega
        have n3 : (0 : Int) ≤ (i : Int) := by omega
        have o1 : IntKind.i64.wrap ((j : Int) + (i : Int)) = (j : Int) + (i : Int) := IntWalk.i64_in _ (by omega)
        have o2 : ((j : Int) + (i : Int)).toNat = j + i := by omega
        have o3 : (0 : Int) ≤ (j : Int) + (i : Int) := by omega
        have o4 : (j : Int) + (i : Int) < (L : Int) := by omega
        have o5 : j + i < L := by omega
        have f3 : IntKind.u64.wrap (x : Int) = (x : Int) := IntWalk.u64_in _ (by omega)
        have wi : IntKind.i64.wrap ((i : Int) + 1) = (i : Int) + 1 := IntWalk.i64_in _ (by omega)
        have step : ∀ (y lo cy2 b' nx : Nat), cy + gu * y = lo + 4294967296 * cy2 → x + b' * 4294967296 = nx + (lo + b) → nx < 4294967296 → cy2 < 4294967296 → b' ≤ 1 → (i = ys.length → cy2 = 0) → valN (vs.take (i + 1)) = valN (vs.take i) + 4294967296 ^ i * y →
          (∃ (i' b'' cy' : Nat) (dn' : List Nat), i' ≤ ys.length + 1 ∧ Value.int .i64 ((i : Int) + 1) = .int .i64 (i' : Int) ∧ Value.int .u64 (b' : Int) = .int .u64 (b'' : Int) ∧ Value.int .u64 (cy2 : Int) = .int .u64 (cy' : Int) ∧ b'' ≤ 1 ∧ cy' < 4294967296 ∧ (i' = ys.length + 1 → cy' = 0) ∧ dn'.length = i' ∧ Wd dn' ∧
           valN dn' + gu * valN (vs.take i') = valN (seg.take i') + (cy' + b'') * 4294967296 ^ i' ∧ Arr .u32 (wr.setCell ⟨BU, j + i, none⟩ (.int .u32 (nx : Int))) BU 44 (ints (P ++ (dn' ++ seg.drop i') ++ Z)) ∧ wo.grownBy (wr.setCell ⟨BU, j + i, none⟩ (.int .u32 (nx : Int))) (some BU)) := by
         intro y lo cy2 b' nx h1 h2 h3 h4 h5 h6 h7
         refine ⟨i + 1, b', cy2, dn ++ [nx], by omega, by go_num, rfl, rfl, h5, h4, fun h => h6 (by omega), by simp [HL.out], HD.out.snoc h3, ?_, ?_, gb_set HG.out (.inr rfl) _⟩
         ·rw [valN_snoc, HL.out, h7, valN_take_succ _ _ (by rw [HSGL.out]; omega), ← HX'.out, Nat.pow_succ]
          exact take_step HVA.out h1 h2
         ·have := arr_set (x := nx) HA.out HPl.out (k := i) (by rw [hml]; omega)
          rw [set_pass _ _ _ _ HL.out (by rw [HSGL.out]; omega)] at this
          exact this
        have HST' := Hd step
        clear step
        by_cases hil : i < ys.length
        ·obtain ⟨y, hy⟩ : ∃ y, y = nat vs i := ⟨_, rfl⟩
         have hyb : y < 4294967296 := by rw [hy]; exact nat_lt HRV6.out.wd _
         have cv : wr.cell? ⟨BV, i, none⟩ = some (.int .u32 (y : Int)) := by
          have := Rd.cell' (c := ys.length + 1) (by rw [HSL.out]; exact hcv) rfl (show i < vs.length by rw [HSL.out]; exact hil)
          rw [Nat.zero_add, ← hy] at this
          exact this
         have HY' : Hid (valN (vs.take (i + 1)) = valN (vs.take i) + 4294967296 ^ i * y) := by unfold Hid; rw [valN_take_succ _ _ (by rw [HSL.out]; exact hil), ← hy]
         clear hy hcv
         obtain ⟨p, hp⟩ : ∃ p, p = gu * y := ⟨_, rfl⟩
         have hple : p ≤ 18446744065119617025 := by rw [hp]; exact mul_le_word hgu hyb
         have f1 : IntKind.u64.wrap ((gu : Int) * (y : Int)) = (p : Int) := mul_wrap hgu hyb hp
         have HPP := Hd hp
         clear hp
         obtain ⟨lo, cy2, hs', hlo⟩ := split_word (cy + p)
         have hcy2 : cy2 < 4294967296 := by omega
         have m1 : (i : Int) < (ys.length : Int) := by omega
         have f2 : IntKind.u64.wrap (y : Int) = (y : Int) := IntWalk.u64_in _ (by omega)
         have f4 : IntKind.u64.wrap ((cy : Int) + (p : Int)) = (cy : Int) + (p : Int) := IntWalk.u64_in _ (by omega)
         have f5 : bits .and .u64 ((cy : Int) + (p : Int)) 4294967295 = (lo : Int) := mask_any (hi := cy2) (by omega) hlo hcy2
         have f6 : ((cy : Int) + (p : Int)) / 4294967296 = (cy2 : Int) := by omega
         have f8 : IntKind.u64.wrap ((lo : Int) + (b : Int)) = (lo : Int) + (b : Int) := IntWalk.u64_in _ (by omega)
         have HSW' : Hid (cy + gu * y = lo + 4294967296 * cy2) := by unfold Hid; rw [← HPP.out]; exact hs'
         have hine : ¬ i = ys.length := by omega
         have HINE := Hd hine
         clear hs' hine
         by_cases hxt : x < lo + b
         ·skip
          have q1 : decide ((x : Int) < (lo : Int) + (b : Int)) = true := decide_eq_true (by omega)
          obtain ⟨nx, hnx⟩ : ∃ nx, x + 1 * 4294967296 = nx + (lo + b) := ⟨x + 1 * 4294967296 - (lo + b), by omega⟩
          have hnxb : nx < 4294967296 := by omega
          have f9 : IntKind.u64.wrap ((x : Int) + 4294967296) = (x : Int) + 4294967296 := IntWalk.u64_in _ (by omega)
          have f10 : IntKind.u64.wrap ((x : Int) + 4294967296 - ((lo : Int) + (b : Int))) = (nx : Int) := by rw [IntWalk.u64_in _ (by omega)]; omega
          have f11 := mask_word hnxb
          have f12 : IntKind.u32.wrap (nx : Int) = (nx : Int) := by rw [IntKind.wrap_u32]; omega
          have HNX := Hd hnx
          clear hnx
          go_wp2_with fail
          go_roundw
          case rel => exact HST'.out y lo cy2 1 nx HSW'.out HNX.out hnxb hcy2 (by omega) (fun h => absurd h HINE.out) HY'.out
          case measure => simp [intOf] <;> omega
         ·skip
          have q1 : decide ((x : Int) < (lo : Int) + (b : Int)) = false := decide_eq_false (by omega)
          obtain ⟨nx, hnx⟩ : ∃ nx, x + 0 * 4294967296 = nx + (lo + b) := ⟨x + 0 * 4294967296 - (lo + b), by omega⟩
          have hnxb : nx < 4294967296 := by omega
          have f10 : IntKind.u64.wrap ((x : Int) - ((lo : Int) + (b : Int))) = (nx : Int) := by rw [IntWalk.u64_in _ (by omega)]; omega
          have f11 := mask_word hnxb
          have f12 : IntKind.u32.wrap (nx : Int) = (nx : Int) := by rw [IntKind.wrap_u32]; omega
          have HNX := Hd hnx
          clear hnx
          go_wp2_with fail
          go_roundw
          case rel => exact HST'.out y lo cy2 0 nx HSW'.out HNX.out hnxb hcy2 (by omega) (fun h => absurd h HINE.out) HY'.out
          case measure => simp [intOf] <;> omega
        ·obtain rfl : i = ys.length := by omega
         have m1 : ¬ (ys.length : Int) < (ys.length : Int) := by omega
         obtain ⟨lo, hlo'⟩ : ∃ lo, lo = cy := ⟨_, rfl⟩
         have hlo : lo < 4294967296 := by omega
         have f5 : bits .and .u64 (cy : Int) 4294967295 = (lo : Int) := by rw [hlo']; exact mask_word hcy
         have f6 : (cy : Int) / 4294967296 = ((0 : Nat) : Int) := by omega
         have f8 : IntKind.u64.wrap ((lo : Int) + (b : Int)) = (lo : Int) + (b : Int) := IntWalk.u64_in _ (by omega)
         have HSW' : Hid (cy + gu * 0 = lo + 4294967296 * 0) := by unfold Hid; omega
         have HY' : Hid (valN (vs.take (ys.length + 1)) = valN (vs.take ys.length) + 4294967296 ^ ys.length * 0) := by unfold Hid; rw [take_all HSL.out, List.take_of_length_le (by rw [HSL.out]; omega)]; rfl
         have hz0 : (0 : Nat) < 4294967296 := by omega
         clear hlo' hcv
         by_cases hxt : x < lo + b
         ·skip
          have q1 : decide ((x : Int) < (lo : Int) + (b : Int)) = true := decide_eq_true (by omega)
          obtain ⟨nx, hnx⟩ : ∃ nx, x + 1 * 4294967296 = nx + (lo + b) := ⟨x + 1 * 4294967296 - (lo + b), by omega⟩
          have hnxb : nx < 4294967296 := by omega
          have f9 : IntKind.u64.wrap ((x : Int) + 4294967296) = (x : Int) + 4294967296 := IntWalk.u64_in _ (by omega)
          have f10 : IntKind.u64.wrap ((x : Int) + 4294967296 - ((lo : Int) + (b : Int))) = (nx : Int) := by rw [IntWalk.u64_in _ (by omega)]; omega
          have f11 := mask_word hnxb
          have f12 : IntKind.u32.wrap (nx : Int) = (nx : Int) := by rw [IntKind.wrap_u32]; omega
          have HNX := Hd hnx
          clear hnx
          go_wp2_with fail
          go_roundw
          case rel => exact HST'.out 0 lo 0 1 nx HSW'.out HNX.out hnxb hz0 (by omega) (fun _ => rfl) HY'.out
          case measure => simp [intOf] <;> omega
         ·skip
          have q1 : decide ((x : Int) < (lo : Int) + (b : Int)) = false := decide_eq_false (by omega)
          obtain ⟨nx, hnx⟩ : ∃ nx, x + 0 * 4294967296 = nx + (lo + b) := ⟨x + 0 * 4294967296 - (lo + b), by omega⟩
          have hnxb : nx < 4294967296 := by omega
          have f10 : IntKind.u64.wrap ((x : Int) - ((lo : Int) + (b : Int))) = (nx : Int) := by rw [IntWalk.u64_in _ (by omega)]; omega
          have f11 := mask_word hnxb
          have f12 : IntKind.u32.wrap (nx : Int) = (nx : Int) := by rw [IntKind.wrap_u32]; omega
          have HNX := Hd hnx
          clear hnx
          go_wp2_with fail
          go_roundw
          case rel => exact HST'.out 0 lo 0 0 nx HSW'.out HNX.out hnxb hz0 (by omega) (fun _ => rfl) HY'.out
          case measure => simp [intOf] <;> omega
       ·obtain rfl : i = ys.length + 1 := by omega
        have hc0 := HCY0.out rfl
        subst hc0
        have n1 : ¬ ((ys.length + 1 : Nat) : Int) ≤ (ys.length : Int) := by omega
        have hsgd : seg.drop (ys.length + 1) = [] := List.drop_of_length_le (by rw [HSGL.out]; exact Nat.le_refl _)
        have HA2 : Hid (Arr .u32 wr BU 44 (ints (P ++ dn ++ Z))) := by have := HA.out; rw [hsgd, List.append_nil] at this; exact this
        have HE : Hid (valN dn + gu * V = S + b * 4294967296 ^ (ys.length + 1)) := by
         have := HVA.out
         rw [List.take_of_length_le (by rw [HSL.out]; omega), List.take_of_length_le (by rw [HSGL.out]; exact Nat.le_refl _), ← HV.out, ← HS.out, Nat.zero_add] at this
         exact this
        clear hsgd hgb
        have hDL : valN dn < 4294967296 ^ (ys.length + 1) := by
         have := valN_lt dn HD.out
         rwa [HL.out] at this
        have HDL := Hd hDL
        clear hDL
        have v3 : IntKind.u32.wrap (gu : Int) = (gu : Int) := by rw [IntKind.wrap_u32]; omega
        by_cases hb0 : b = 0
        ·subst hb0
         have u1 : ((0 : Int) == 1) = false := rfl
         obtain ⟨e1, e2⟩ := parts_end0 (by have := HE.out; rw [Nat.zero_mul, Nat.add_zero] at this; exact this) HQ0'.out hVpos
         obtain ⟨⟨old, hcq, hfq⟩, hend⟩ := HFIN.out dn wr HL.out HD.out e2 HA2.out HG.out
         have HEND := Hd (hend gu e1)
         clear hend e1 e2
         go_wp2_with fail
         go_roundg j
         case measure => omega
         case rel =>
          obtain ⟨U', qs', h1, _, h3⟩ := HEND.out
          exact ⟨U', qs', h1, by go_num, h3⟩
        ·obtain rfl : b = 1 := by omega
         have u1 : ((1 : Int) == 1) = true := rfl
         obtain ⟨hgp, e1, e2⟩ := parts_end1 (by have := HE.out; rw [Nat.one_mul] at this; exact this) HDL.out HQ1'.out HQ0'.out hVpos
         obtain ⟨g1, hg1⟩ : ∃ g1, gu = g1 + 1 := ⟨gu - 1, by omega⟩
         rw [hg1, Nat.add_sub_cancel] at e1
         have v4 : IntKind.u64.wrap ((gu : Int) - 1) = (g1 : Int) := by rw [IntWalk.u64_in _ (by omega)]; omega
         have v5 : IntKind.u32.wrap (g1 : Int) = (g1 : Int) := by rw [IntKind.wrap_u32]; omega
         have HE1 := Hd e1
         have HE2 := Hd e2
         clear hg1 e1 e2
         obtain ⟨wc2, rfl⟩ : ∃ w_ : World, w_ = wr := ⟨_, rfl⟩
         go_wp2_with fail
         go_loopw [22, 23] (fun vc vi wz => ∃ (i cy : Nat) (d2 : List Nat), i ≤ ys.length + 1 ∧ vi = .int .i64 (i : Int) ∧ vc = .int .u64 (cy : Int) ∧ cy ≤ 1 ∧ d2.length = i ∧ Wd d2 ∧
           valN d2 + cy * 4294967296 ^ i = valN (dn.take i) + valN (vs.take i) ∧ Arr .u32 wz BU 44 (ints (P ++ (d2 ++ dn.drop i) ++ Z)) ∧ wo.grownBy wz (some BU)) (fun _ vi _ => ys.length + 1 - (intOf vi).toNat)
         case atStart => exact ⟨0, 0, [], by omega, rfl, rfl, by omega, rfl, (fun x hx => (by cases hx)), by simp [valN], by rw [List.nil_append, List.drop_zero]; exact HA2.out, HG.out⟩
         case round =>
          obtain ⟨wr_w, rfl⟩ : ∃ w_ : World, w_ = wr := ⟨_, rfl⟩
          obtain ⟨i, cy, d2, hi2, rfl, rfl, hcy2, hdl2, hdw2, hval2, harr2, hgb2⟩ := hrel
          have HD2 := Hd hdw2
          have HVA2 := Hd hval2
          have HA3 := Hd harr2
          have HG2 := Hd hgb2
          have HL2 := Hd hdl2
          have hml2 : (d2 ++ dn.drop i).length = ys.length + 1 := by rw [List.length_append, List.length_drop, HL2.out, HL.out]; omega
          clear hdw2 hval2 harr2 hdl2
          by_cases hin2 : i ≤ ys.length
          ·have hcv := (HRV7.out.grown hgb2 HNE.out)
           clear hgb2
           obtain ⟨x, hx⟩ : ∃ x, x = nat dn i := ⟨_, rfl⟩
           have hxb : x < 4294967296 := by rw [hx]; exact nat_lt HD.out _
           have cu : wr_w.cell? ⟨BU, j + i, none⟩ = some (.int .u32 (x : Int)) := by
            have := arr_cell HA3.out HPl.out (k := i) (by rw [hml2]; omega)
            rw [nat_pass _ _ _ HL2.out, ← hx] at this
            exact this
           have fu := HA3.out.frozen (j + i)
           have HX' := Hd hx
           clear hx
           have n1' : (i : Int) ≤ (ys.length : Int) := by omega
           have n2' : (i : Int).toNat = i := by omega
           have n3' : (0 : Int) ≤ (i : Int) := by omega
           have o1 : IntKind.i64.wrap ((j : Int) + (i : Int)) = (j : Int) + (i : Int) := IntWalk.i64_in _ (by omega)
           have o2 : ((j : Int) + (i : Int)).toNat = j + i := by omega
           have o3 : (0 : Int) ≤ (j : Int) + (i : Int) := by omega
           have o4 : (j : Int) + (i : Int) < (L : Int) := by omega
           have o5 : j + i < L := by omega
           have f3 : IntKind.u64.wrap (x : Int) = (x : Int) := IntWalk.u64_in _ (by omega)
           have f4 : IntKind.u64.wrap ((x : Int) + (cy : Int)) = (x : Int) + (cy : Int) := IntWalk.u64_in _ (by omega)
           have wi : IntKind.i64.wrap ((i : Int) + 1) = (i : Int) + 1 := IntWalk.i64_in _ (by omega)
           have step : ∀ (y lo cy' : Nat), x + cy + y = lo + 4294967296 * cy' → lo < 4294967296 → cy' ≤ 1 → valN (vs.take (i + 1)) = valN (vs.take i) + 4294967296 ^ i * y →
             (∃ (i' cy'' : Nat) (d' : List Nat), i' ≤ ys.length + 1 ∧ Value.int .i64 ((i : Int) + 1) = .int .i64 (i' : Int) ∧ Value.int .u64 (cy' : Int) = .int .u64 (cy'' : Int) ∧ cy'' ≤ 1 ∧ d'.length = i' ∧ Wd d' ∧
              valN d' + cy'' * 4294967296 ^ i' = valN (dn.take i') + valN (vs.take i') ∧ Arr .u32 (wr_w.setCell ⟨BU, j + i, none⟩ (.int .u32 (lo : Int))) BU 44 (ints (P ++ (d' ++ dn.drop i') ++ Z)) ∧ wo.grownBy (wr_w.setCell ⟨BU, j + i, none⟩ (.int .u32 (lo : Int))) (some BU)) := by
            intro y lo cy' h1 h2 h3 h4
            refine ⟨i + 1, cy', d2 ++ [lo], by omega, by go_num, rfl, h3, by simp [HL2.out], HD2.out.snoc h2, ?_, ?_, gb_set HG2.out (.inr rfl) _⟩
            ·rw [valN_snoc, HL2.out, h4, valN_take_succ _ _ (by rw [HL.out]; omega), ← HX'.out, Nat.pow_succ]
             exact add_step HVA2.out h1
            ·have := arr_set (x := lo) HA3.out HPl.out (k := i) (by rw [hml2]; omega)
             rw [set_pass _ _ _ _ HL2.out (by rw [HL.out]; omega)] at this
             exact this
           have HST' := Hd step
           clear step
           by_cases hil : i < ys.length
           ·obtain ⟨y, hy⟩ : ∃ y, y = nat vs i := ⟨_, rfl⟩
            have hyb : y < 4294967296 := by rw [hy]; exact nat_lt HRV6.out.wd _
            have cv : wr_w.cell? ⟨BV, i, none⟩ = some (.int .u32 (y : Int)) := by
             have := Rd.cell' (c := ys.length + 1) (by rw [HSL.out]; exact hcv) rfl (show i < vs.length by rw [HSL.out]; exact hil)
             rw [Nat.zero_add, ← hy] at this
             exact this
            have HY' : Hid (valN (vs.take (i + 1)) = valN (vs.take i) + 4294967296 ^ i * y) := by unfold Hid; rw [valN_take_succ _ _ (by rw [HSL.out]; exact hil), ← hy]
            clear hy hcv
            obtain ⟨lo, cy', hs', hlo⟩ := split_word (x + cy + y)
            have hcy' : cy' ≤ 1 := by omega
            have m1 : (i : Int) < (ys.length : Int) := by omega
            have f2 : IntKind.u64.wrap (y : Int) = (y : Int) := IntWalk.u64_in _ (by omega)
            have f5 : IntKind.u64.wrap ((x : Int) + (cy : Int) + (y : Int)) = (x : Int) + (cy : Int) + (y : Int) := IntWalk.u64_in _ (by omega)
            have f6 : bits .and .u64 ((x : Int) + (cy : Int) + (y : Int)) 4294967295 = (lo : Int) := mask_any (hi := cy') (by omega) hlo (by omega)
            have f7 : IntKind.u32.wrap (lo : Int) = (lo : Int) := by rw [IntKind.wrap_u32]; omega
            have f8 : ((x : Int) + (cy : Int) + (y : Int)) / 4294967296 = (cy' : Int) := by omega
            have HSS' := Hd hs'
            clear hs'
            go_wp2_with fail
            go_roundw
            case rel => exact HST'.out y lo cy' HSS'.out hlo hcy' HY'.out
            case measure => simp [intOf] <;> omega
           ·obtain rfl : i = ys.length := by omega
            have m1 : ¬ (ys.length : Int) < (ys.length : Int) := by omega
            obtain ⟨lo, cy', hs', hlo⟩ := split_word (x + cy + 0)
            have hcy' : cy' ≤ 1 := by omega
            have f6 : bits .and .u64 ((x : Int) + (cy : Int)) 4294967295 = (lo : Int) := mask_any (hi := cy') (by omega) hlo (by omega)
            have f7 : IntKind.u32.wrap (lo : Int) = (lo : Int) := by rw [IntKind.wrap_u32]; omega
            have f8 : ((x : Int) + (cy : Int)) / 4294967296 = (cy' : Int) := by omega
            have HY' : Hid (valN (vs.take (ys.length + 1)) = valN (vs.take ys.length) + 4294967296 ^ ys.length * 0) := by unfold Hid; rw [take_all HSL.out, List.take_of_length_le (by rw [HSL.out]; omega)]; rfl
            have HSS' := Hd hs'
            clear hs' hcv
            go_wp2_with fail
            go_roundw
            case rel => exact HST'.out 0 lo cy' HSS'.out hlo hcy' HY'.out
            case measure => simp [intOf] <;> omega
          ·obtain rfl : i = ys.length + 1 := by omega
           have n1' : ¬ ((ys.length + 1 : Nat) : Int) ≤ (ys.length : Int) := by omega
           have hdd : dn.drop (ys.length + 1) = [] := List.drop_of_length_le (by rw [HL.out]; exact Nat.le_refl _)
           have HA4 : Hid (Arr .u32 wr_w BU 44 (ints (P ++ d2 ++ Z))) := by have := HA3.out; rw [hdd, List.append_nil] at this; exact this
           have hfin2 : valN d2 = S % V := by
            have h1 := HVA2.out
            rw [List.take_of_length_le (by rw [HL.out]; exact Nat.le_refl _), List.take_of_length_le (by rw [HSL.out]; omega), ← HV.out, HE2.out] at h1
            have h2 := valN_lt d2 HD2.out
            rw [HL2.out] at h2
            have h3 : S % V < 4294967296 ^ (ys.length + 1) := Nat.lt_of_lt_of_le (Nat.mod_lt _ hVpos) (Nat.le_trans (Nat.le_of_lt HVLT.out) (Nat.pow_le_pow_right (by decide) (by omega)))
            rcases Nat.le_one_iff_eq_zero_or_eq_one.1 hcy2 with rfl | rfl
            ·omega
            ·omega
           obtain ⟨⟨old, hcq, hfq⟩, hend⟩ := HFIN.out d2 wr_w HL2.out HD2.out hfin2 HA4.out HG2.out
           have HEND := Hd (hend g1 HE1.out)
           clear hend hdd hfin2 hgb2
           go_wp2_with fail
           go_roundg j
           case measure => omega
           case rel =>
            obtain ⟨U', qs', h1, _, h3⟩ := HEND.out
            exact ⟨U', qs', h1, by go_num, h3⟩
    ·obtain rfl : gk = 0 := by omega
     have HQA9 : Hid (Arr .u32 wo w6.heap.size 44 (ints qs)) := by have := HQA7.out; rw [List.replicate_zero, List.nil_append] at this; exact this
     have hqrd := Rd.of_arr HQA9.out HQw.out
     have hql : qs.length = K := by have := HQl.out; omega
     have HQRD := Hd (show Rd wo (.slice (some ⟨w6.heap.size, 0, none⟩) qs.length K) qs by rw [hql] at hqrd ⊢; exact hqrd)
     have HUlt0 : Hid (valN U < V) := by have := HUlt.out; rw [Nat.pow_zero, Nat.mul_one] at this; exact this
     have HM0' : Hid (m * 2 ^ k = valN U + V * valN qs) := by have := HM.out; rw [Nat.pow_zero, Nat.mul_one] at this; exact this
     have htr := rtrim_rn HQRD.out (by omega)
     rw [hql] at htr
     have HTR := Hd htr
     clear hqrd hql htr
     go_wp2_with fail
     refine HTR.out.mono ?_
     rintro e w8 ⟨v8, rfl, hv8, hb8⟩
     have HV8 := Hd hv8
     have HUA9 := Hd (HUA7.out.below hb8 HUA7.out.lt)
     have HBK8 := Hd (HBK7.out.below hb8 HBK7.out.lt)
     have HG8 : Hid (w.grownBy w8 none) := gb_below HG7.out hb8
     obtain ⟨A8, c8, x8, rfl, _, _, _⟩ := RN.opened hv8
     clear hv8 hb8
     have hurd := Rd.of_arr HUA9.out HUw.out
     rw [HUl.out] at hurd
     have hun := rback_calls w8 (some ⟨BU, 0, none⟩) L U k (by rw [HUl.out]; exact hurd) (by rw [HUl.out]; omega) hs
     rw [HUl.out] at hun
     have HUN := Hd hun
     clear hurd hun
     go_wp2_with fail
     refine HUN.out.mono ?_
     rintro e w9 ⟨v9, rfl, hv9, hb9⟩
     have HV89 := Hd (Rd.below HV8.out hb9)
     have HV9 := Hd hv9
     have HBK9 := Hd (HBK8.out.below hb9 HBK8.out.lt)
     have HG9 : Hid (w.grownBy w9 none) := gb_below HG8.out hb9
     obtain ⟨A9, c9, x9, rfl, _, _, _⟩ := RN.opened hv9
     clear hv9 hb9
     have e0 := HBK9.out.cell (j := 0) rfl
     have e1 := HBK9.out.cell (j := 1) rfl
     have f0 := HBK9.out.frozen 0
     have f1 := HBK9.out.frozen 1
     go_wp2_with fail
     obtain ⟨hq1', hr1'⟩ := div_end (m := m) (n := n) (s := k) (U := valN U) (q := valN qs) (Nat.pos_of_ne_zero hn0) (by rw [← HV0.out]; exact HM0'.out) (by rw [← HV0.out]; exact HUlt0.out)
     exact end140 Tryd.results61 rfl HBK9.out (by rw [← hq1']; exact HV89.out) (by rw [← hr1']; exact HV9.out) (Nat.le_refl _) (gb_to_below HG9.out)
set_option maxHeartbeats 8000000 in
set_option maxRecDepth 100000 in
theorem rsmall_calls (w : World) (v : Value) (m : Nat) (h : RN w v m) (hm : wlen m ≤ 2) : Calls Tryd.prog 64 #[v] w fun e w' => e = .returned (.int .u64 (m : Int)) ∧ Below w.heap.size w w' := by
 obtain ⟨A, c, xs, rfl, hc, HX, HR⟩ := h.opened
 clear h
 have hl : xs.length ≤ 2 := by rw [HX.out]; exact hm
 have HV : Hid (valN xs = m) := by unfold Hid; rw [HX.out, valN_dg]
 clear HX hm
 go_enter Tryd.func64, Tryd.ntmps64
 have w0 : IntKind.i64.wrap ((xs.length : Int) - 1) = (xs.length : Int) - 1 := IntWalk.i64_in _ (by omega)
 go_wp2_with fail
 go_loop [3, 4] (fun va vi => ∃ k : Nat, k ≤ xs.length ∧ vi = .int .i64 ((k : Int) - 1) ∧ va = .int .u64 ((valN (xs.drop k) : Nat) : Int)) (fun _ vi => (intOf vi + 1).toNat)
 case atStart => exact ⟨xs.length, Nat.le_refl _, rfl, by rw [List.drop_length]; rfl⟩
 case round =>
  obtain ⟨k, hk, rfl, rfl⟩ := hrel
  by_cases h0 : 0 < k
  ·obtain ⟨g, o, rfl, hg, hcell⟩ := HR.out.cell (j := k - 1) (by omega)
   have n1 : (k : Int) - 1 ≥ 0 := by omega
   have n2 : ((k : Int) - 1).toNat = k - 1 := by omega
   have n3 : (k : Int) - 1 < (xs.length : Int) := by omega
   have wk : IntKind.i64.wrap ((k : Int) - 1 - 1) = (k : Int) - 1 - 1 := IntWalk.i64_in _ (by omega)
   have hx := nat_lt HR.out.wd (k - 1)
   obtain ⟨x, hxx⟩ : ∃ x, x = nat xs (k - 1) := ⟨_, rfl⟩
   have hd := valN_drop xs (k - 1) (by omega)
   rw [Nat.sub_add_cancel h0, ← hxx] at hd
   rw [← hxx] at hx hcell
   obtain ⟨acc, hacc⟩ : ∃ acc, acc = valN (xs.drop k) := ⟨_, rfl⟩
   have hab : acc < 4294967296 := by
    have h1 := valN_lt (xs.drop k) (HR.out.wd.drop k)
    rw [List.length_drop] at h1
    have h2 : 4294967296 ^ (xs.length - k) ≤ 4294967296 ^ 1 := Nat.pow_le_pow_right (by decide) (by omega)
    omega
   rw [← hacc] at hd ⊢
   have f0 : IntKind.u64.wrap ((acc : Int) * 4294967296) = (acc : Int) * 4294967296 := IntWalk.u64_in _ (by omega)
   have f1 : IntKind.u64.wrap (x : Int) = (x : Int) := IntWalk.u64_in _ (by omega)
   have hor := or_word acc x hab hx
   obtain ⟨z, hz⟩ : ∃ z, z = acc * 4294967296 + x := ⟨_, rfl⟩
   rw [← hz] at hor
   have HZ : Hid (valN (xs.drop (k - 1)) = z) := by unfold Hid; rw [hd, hz]; omega
   clear hz hd hacc hxx
   go_wp2_with fail
   go_round
   case rel => exact ⟨k - 1, by omega, by go_num, by rw [HZ.out]⟩
   case measure => simp [intOf]; omega
  ·obtain rfl : k = 0 := by omega
   rw [List.drop_zero, HV.out]
   go_wp2_with fail
   go_ret
   exact ⟨rfl, Below.refl _ _⟩
set_option maxHeartbeats 8000000 in
set_option maxRecDepth 100000 in
theorem rwide_calls (w : World) (n : Nat) (hn : n < 18446744073709551616) :
  Calls Tryd.prog 49 #[.int .u64 n] w fun e w' => WPost w n e w' := by
 have c0 := mask_low n hn
 have c1 : IntKind.u32.wrap ((n % 4294967296 : Nat) : Int) = ((n % 4294967296 : Nat) : Int) := by rw [IntKind.wrap_u32]; omega
 have c2 : IntKind.u32.wrap ((n : Int) / 4294967296) = ((n / 4294967296 : Nat) : Int) := by rw [IntKind.wrap_u32]; omega
 obtain ⟨a, ha⟩ : ∃ a, a = n % 4294967296 := ⟨_, rfl⟩
 obtain ⟨b, hb⟩ : ∃ b, b = n / 4294967296 := ⟨_, rfl⟩
 rw [← ha] at c0 c1
 rw [← hb] at c2
 have hr := rd_two w a b (by omega) (by omega)
 have hval : valN [a, b] = n := by simp only [valN]; omega
 have HR := Hd hr
 have HV := Hd hval
 clear ha hb hr hval
 go_enter Tryd.func49, Tryd.ntmps49
 go_wp2_with fail
 refine (rtrim_rn HR.out (by simp)).mono ?_
 rintro e w' ⟨v, rfl, hv, hb⟩
 rw [HV.out] at hv
 go_wp2_with fail
 go_ret
 exact ⟨_, rfl, hv, below_next (below_new w _) hb⟩
theorem RN.two {w : World} {v : Value} {n : Nat} (h : RN w v n) : wlen n ≤ 2 ↔ n < 18446744073709551616 := dg_len_two
set_option maxHeartbeats 16000000 in
set_option maxRecDepth 100000 in
theorem rcommon_calls (w : World) (v v2 : Value) (m n : Nat) (h : RN w v m) (h2 : RN w v2 n) (hm : wlen m ≤ 10000000000) (hn : wlen n ≤ 10000000000) :
  Calls Tryd.prog 54 #[v, v2] w fun e w' => WPost w (Nat.gcd m n) e w' := by
 have HRN := Hd h
 have HRN2 := Hd h2
 clear h h2
 go_enter Tryd.func54, Tryd.ntmps54
 go_wp2_with fail
 go_loopw [0, 1] (fun va vb wr => ∃ a b : Nat, RN wr va a ∧ RN wr vb b ∧ Nat.gcd a b = Nat.gcd m n ∧ wlen a ≤ 10000000000 ∧ wlen b ≤ 10000000000 ∧ Below w.heap.size w wr) (fun va vb wr => numOf wr vb)
 case atStart => exact ⟨m, n, HRN.out, HRN2.out, rfl, hm, hn, Below.refl _ _⟩
 case round =>
  obtain ⟨a, b, ha, hb, hg, hal, hbl, hbr⟩ := hrel
  have HA := Hd ha
  have HB := Hd hb
  have HGC := Hd hg
  have HW := Hd hbr
  clear ha hb hg hbr
  obtain ⟨A1, c1, xs, e1, hc1, HX, HR⟩ := HA.out.opened
  obtain ⟨A2, c2, ys, e2, hc2, HY, HR2⟩ := HB.out.opened
  subst e1
  subst e2
  have hxl : xs.length = wlen a := by rw [HX.out]; rfl
  have hyl : ys.length = wlen b := by rw [HY.out]; rfl
  have go : b ≠ 0 → ∀ (P : Prop), P → P := fun _ P h => h
  clear go
  by_cases hlong : 2 < ys.length ∨ (2 < xs.length ∧ 0 < ys.length)
  ·have hb0 : b ≠ 0 := wlen_pos.1 (by omega)
   have t : decide ((ys.length : Int) > 2) = true ∨ (decide ((ys.length : Int) > 2) = false ∧ decide ((xs.length : Int) > 2) = true ∧ (ys.length : Int) > 0) := by
    by_cases h : 2 < ys.length
    ·exact .inl (decide_eq_true (by omega))
    ·exact .inr ⟨decide_eq_false (by omega), decide_eq_true (by omega), (by omega)⟩
   have HB0 := Hd hb0
   clear hxl hyl hlong hb0
   rcases t with t1 | ⟨t1, t2, t3⟩
   all_goals
    go_wp2_with fail
    refine (rparts_calls _ _ _ a b HA.out HB.out hal hbl HB0.out).mono ?_
    rintro e w2 ⟨vq, vr, rfl, hq, hr, hb2⟩
    have HR' := Hd hr
    have HB' := Hd (HB.out.of_below hb2)
    have HW2 := Hd (below_next HW.out hb2)
    obtain ⟨A5, d5, l5, rfl, _, _, _⟩ := hq.opened
    obtain ⟨A6, d6, l6, rfl, _, _, _⟩ := RN.opened hr
    clear hq hr hb2
    go_wp2_with fail
    go_quiet (fail)
    go_wp2_with fail
    go_roundw
    case rel =>
     have hbz := pw_drewN (below_new w2 (.cells #[.slice A5 l5.length d5, .slice A6 l6.length d6] 94)) nq
     refine ⟨b, a % b, HB'.out.of_below hbz, HR'.out.of_below hbz, ?_, hbl, ?_, below_next HW2.out hbz⟩
     ·rw [← HGC.out, Nat.gcd_comm b, ← Nat.gcd_rec, Nat.gcd_comm]
     ·exact Nat.le_trans (wlen_mono (Nat.mod_le _ _)) hal
    case measure =>
     have hbz := pw_drewN (below_new w2 (.cells #[.slice A5 l5.length d5, .slice A6 l6.length d6] 94)) nq
     have e1 := numOf_eq (HR'.out.of_below hbz)
     have e2 := numOf_eq HB.out
     simp only [e1, e2] at *
     exact Nat.mod_lt _ (Nat.pos_of_ne_zero HB0.out)
  ·have t1 : decide ((ys.length : Int) > 2) = false := decide_eq_false (by omega)
   have t : decide ((xs.length : Int) > 2) = false ∨ (decide ((xs.length : Int) > 2) = true ∧ ¬ (ys.length : Int) > 0) := by
    by_cases h : 2 < xs.length
    ·exact .inr ⟨decide_eq_true (by omega), (by omega)⟩
    ·exact .inl (decide_eq_false (by omega))
   by_cases h0 : b = 0
   ·have q0 : ((ys.length : Int) == 0) = true := eqb0 (by rw [hyl, h0]; rfl)
    have HGA : Hid (Nat.gcd m n = a) := by unfold Hid; rw [← HGC.out, h0, Nat.gcd_zero_right]
    clear hlong hxl hyl h0
    rcases t with t2 | ⟨t2, t3⟩
    all_goals
     go_wp2_with fail
     go_ret
     exact ⟨_, rfl, by rw [HGA.out]; exact HA.out, HW.out⟩
   ·have hyp : 0 < ys.length := by rw [hyl]; exact wlen_pos.2 h0
    have q0 : ((ys.length : Int) == 0) = false := neb0 (by omega)
    have t2 : decide ((xs.length : Int) > 2) = false := decide_eq_false (by omega)
    have ha2 : wlen a ≤ 2 := by omega
    have hb2 : wlen b ≤ 2 := by omega
    have ha64 := dg_len_two.1 ha2
    have hb64 := dg_len_two.1 hb2
    clear hlong hxl hyl h0 t
    go_wp2_with fail
    refine (rsmall_calls _ _ a HA.out ha2).mono ?_
    rintro e w2 ⟨rfl, hbz⟩
    have HW2 := Hd (below_next HW.out hbz)
    have HB' := Hd (HB.out.of_below hbz)
    clear hbz
    go_wp2_with fail
    refine (rsmall_calls _ _ b HB'.out hb2).mono ?_
    rintro e w3 ⟨rfl, hbz⟩
    have HW3 := Hd (below_next HW2.out hbz)
    clear hbz
    go_wp2_with fail
    go_loopw [6, 7] (fun vx vy wr => ∃ p q : Nat, vx = .int .u64 (p : Int) ∧ vy = .int .u64 (q : Int) ∧ Nat.gcd p q = Nat.gcd m n ∧ p < 18446744073709551616 ∧ q < 18446744073709551616 ∧ Below w.heap.size w wr) (fun _ vy _ => (intOf vy).toNat)
    case atStart => exact ⟨_, _, rfl, rfl, HGC.out, ha64, hb64, HW3.out⟩
    case round =>
     obtain ⟨p, q, rfl, rfl, hpq, hp, hq, hbr⟩ := hrel
     have HPQ := Hd hpq
     have HWr := Hd hbr
     clear hpq hbr
     by_cases hq0 : q = 0
     ·have t1' : ¬ (q : Int) > 0 := by omega
      have HG : Hid (Nat.gcd m n = p) := by unfold Hid; rw [← HPQ.out, hq0, Nat.gcd_zero_right]
      clear hq0
      go_wp2_with fail
      refine (rwide_calls _ p hp).mono ?_
      rintro e w5 ⟨v5, rfl, hv5, hb5⟩
      have HV5 := Hd hv5
      have HW5 := Hd (below_next HWr.out hb5)
      clear hv5 hb5
      go_wp2_with fail
      go_ret
      exact ⟨_, rfl, by rw [HG.out]; exact HV5.out, HW5.out⟩
     ·have t1' : (q : Int) > 0 := by omega
      obtain ⟨r, hr⟩ : ∃ r, r = p % q := ⟨_, rfl⟩
      obtain ⟨⟨df1, df2⟩, df3, df4⟩ := div_facts (z := p) (d := q) rfl rfl
      rw [← hr] at df2 df4
      have hrq : r < q := by rw [hr]; exact Nat.mod_lt _ (Nat.pos_of_ne_zero hq0)
      have f1 : IntKind.u64.wrap (r : Int) = (r : Int) := IntWalk.u64_in _ (by omega)
      have d0 : ((q : Int) == 0) = false := neb0 hq0
      have d1 : (q : Int) ≠ 0 := by omega
      have HGN : Hid (Nat.gcd q r = Nat.gcd m n) := by unfold Hid; rw [← HPQ.out, hr, Nat.gcd_comm q, ← Nat.gcd_rec, Nat.gcd_comm]
      clear hr hq0
      go_wp2_with fail
      go_quiet (fail)
      go_wp2_with fail
      go_roundw
      case rel => exact ⟨q, r, rfl, rfl, HGN.out, hq, by omega, pw_drewN HWr.out _⟩
      case measure => simp [intOf]; omega
theorem fit_cap {a : Nat} {p : Rat} (h : FitQ a p) (ha : a ≤ 2048) : capQ p = p := by unfold capQ; rw [if_pos (by have := h.size; omega)]
theorem FPost.q {w : World} {q q' : Rat} {e : Ending} {w' : World} (h : FPost w q e w') (e' : q = q') : FPost w q' e w' := e' ▸ h
def HR (w : World) (bs : List (Nat × Nat × Array Value)) (g t : Nat) (W : World) : Prop := HS w bs W ∧ ∃ x y z, (∀ u ∈ #[x, y, z], notInt u = true) ∧ Blk W g t #[x, y, z]
theorem HR.step {w W W' : World} {bs : List (Nat × Nat × Array Value)} {g t : Nat} (h : HR w bs g t W) (hb : Below W.heap.size W W') : HR w bs g t W' := by
 obtain ⟨h1, x, y, z, hn, hk⟩ := h
 exact ⟨h1.step hb, x, y, z, hn, hk.below hb hk.lt⟩
theorem HR.drew {w W : World} {bs : List (Nat × Nat × Array Value)} {g t : Nat} (h : HR w bs g t W) : HR w bs g t W.drew := h.step (Below.drew (Below.refl _ _))
theorem HR.put {w W : World} {bs : List (Nat × Nat × Array Value)} {g t : Nat} (h : HR w bs g t W) (hg : w.heap.size ≤ g) (hne : ∀ b ∈ bs, b.1 ≠ g) (x y z : Value) (hn : ∀ u ∈ #[x, y, z], notInt u = true) :
  HR w bs g t (((W.setCell ⟨g, 0, none⟩ x).setCell ⟨g, 1, none⟩ y).setCell ⟨g, 2, none⟩ z) := by
 obtain ⟨h1, a, b, c, _, hk⟩ := h
 refine ⟨⟨fun b hm => ?_, below_put3 h1.2 hg x y z⟩, x, y, z, hn, hk.put3 x y z⟩
 exact (((h1.1 b hm).other (a := ⟨g, 0, none⟩) (hne b hm) x).other (a := ⟨g, 1, none⟩) (hne b hm) y).other (a := ⟨g, 2, none⟩) (hne b hm) z
theorem HR.of {w W : World} {bs : List (Nat × Nat × Array Value)} {g t : Nat} {x y z : Value} (h : HS w ((g, t, #[x, y, z]) :: bs) W) (hn : ∀ u ∈ #[x, y, z], notInt u = true) : HR w bs g t W :=
 ⟨⟨fun b hm => h.1 b (List.mem_cons_of_mem _ hm), h.2⟩, x, y, z, hn, h.blk 0 rfl⟩
theorem HR.at_ {w W : World} {bs : List (Nat × Nat × Array Value)} {g t : Nat} (h : HR w bs g t W) : ∃ x y z, (∀ u ∈ #[x, y, z], notInt u = true) ∧ Blk W g t #[x, y, z] := h.2
theorem HR.c2 {w W : World} {g t : Nat} {x y z x' y' z' : Value} {g1 g2 t1 t2 : Nat} (h : HR w [(g2, t2, #[x', y', z']), (g1, t1, #[x, y, z])] g t W) :
  W.cell? ⟨g1, 0, none⟩ = some x ∧ W.cell? ⟨g1, 1, none⟩ = some y ∧ W.cell? ⟨g1, 2, none⟩ = some z ∧ W.cell? ⟨g2, 0, none⟩ = some x' ∧ W.cell? ⟨g2, 1, none⟩ = some y' ∧ W.cell? ⟨g2, 2, none⟩ = some z' :=
 ⟨(h.1.blk 1 rfl).cell rfl, (h.1.blk 1 rfl).cell rfl, (h.1.blk 1 rfl).cell rfl, (h.1.blk 0 rfl).cell rfl, (h.1.blk 0 rfl).cell rfl, (h.1.blk 0 rfl).cell rfl⟩
theorem HS.c2 {w W : World} {g t : Nat} {x y z x' y' z' : Value} {g1 g2 t1 t2 : Nat} (h : HS w [(g2, t2, #[x', y', z']), (g1, t1, #[x, y, z])] W) :
  W.cell? ⟨g1, 0, none⟩ = some x ∧ W.cell? ⟨g1, 1, none⟩ = some y ∧ W.cell? ⟨g1, 2, none⟩ = some z ∧ W.cell? ⟨g2, 0, none⟩ = some x' ∧ W.cell? ⟨g2, 1, none⟩ = some y' ∧ W.cell? ⟨g2, 2, none⟩ = some z' :=
 ⟨(h.blk 1 rfl).cell rfl, (h.blk 1 rfl).cell rfl, (h.blk 1 rfl).cell rfl, (h.blk 0 rfl).cell rfl, (h.blk 0 rfl).cell rfl, (h.blk 0 rfl).cell rfl⟩
def Elems {α : Type} (k : Nat) (E : World → Array Value → α → Prop) (w : World) (g o : Nat) (xs : List α) : Prop :=
 ∀ j x, xs[j]? = some x → ∃ vs : Array Value, vs.size = k ∧ (∀ i v, vs[i]? = some v → w.cell? ⟨g, o + j * k + i, none⟩ = some v) ∧ E w vs x
def SL {α : Type} (k : Nat) (E : World → Array Value → α → Prop) (w : World) (v : Value) (xs : List α) : Prop :=
 ∃ A c, v = .slice A xs.length c ∧ xs.length ≤ c ∧ (0 < xs.length → ∃ g o, A = some ⟨g, o, none⟩ ∧ g < w.heap.size ∧ Elems k E w g o xs)
def Stays {α : Type} (E : World → Array Value → α → Prop) : Prop := ∀ w w1 vs x, E w vs x → Below w.heap.size w w1 → E w1 vs x
theorem Elems.below {α : Type} {k : Nat} {E : World → Array Value → α → Prop} {w w1 : World} {g o : Nat} {xs : List α} (hE : Stays E) (h : Elems k E w g o xs) (hg : g < w.heap.size) (hb : Below w.heap.size w w1) : Elems k E w1 g o xs := fun j x hx => by
 obtain ⟨vs, hs, hc, he⟩ := h j x hx
 exact ⟨vs, hs, fun i v hv => ((bcell hb).1 g _ hg).trans (hc i v hv), hE _ _ _ _ he hb⟩
theorem SL.below {α : Type} {k : Nat} {E : World → Array Value → α → Prop} {w w1 : World} {v : Value} {xs : List α} (hE : Stays E) (h : SL k E w v xs) (hb : Below w.heap.size w w1) : SL k E w1 v xs := by
 obtain ⟨A, c, rfl, hc, hr⟩ := h
 refine ⟨A, c, rfl, hc, fun hp => ?_⟩
 obtain ⟨g, o, rfl, hg, he⟩ := hr hp
 exact ⟨g, o, rfl, Nat.lt_of_lt_of_le hg hb.size, he.below hE hg hb⟩
theorem SL.slice {α : Type} {k : Nat} {E : World → Array Value → α → Prop} {w : World} {v : Value} {xs : List α} (h : SL k E w v xs) : ∃ A c, v = .slice A xs.length c ∧ xs.length ≤ c := by
 obtain ⟨A, c, rfl, hc, _⟩ := h
 exact ⟨A, c, rfl, hc⟩
theorem SL.at_ {α : Type} {k : Nat} {E : World → Array Value → α → Prop} {w : World} {A : Option Addr} {n c : Nat} {xs : List α} (h : SL k E w (.slice A n c) xs) {j : Nat} {x : α} (hj : xs[j]? = some x) :
  ∃ g o vs, A = some ⟨g, o, none⟩ ∧ g < w.heap.size ∧ vs.size = k ∧ (∀ i v, vs[i]? = some v → w.cell? ⟨g, o + j * k + i, none⟩ = some v) ∧ E w vs x := by
 obtain ⟨A', c', e, hc, hr⟩ := h
 injection e with e1 e2 e3
 subst e1
 obtain ⟨g, o, rfl, hg, he⟩ := hr (by have := (List.getElem?_eq_some_iff.1 hj).1; omega)
 obtain ⟨vs, h1, h2, h3⟩ := he j x hj
 exact ⟨g, o, vs, rfl, hg, h1, h2, h3⟩
theorem SL.take {α : Type} {k : Nat} {E : World → Array Value → α → Prop} {w : World} {A : Option Addr} {c c' : Nat} {xs : List α} (h : SL k E w (.slice A xs.length c) xs) (n : Nat) (hn : n ≤ xs.length) (hc : n ≤ c') : SL k E w (.slice A n c') (xs.take n) := by
 obtain ⟨A', c1, e, _, hr⟩ := h
 injection e with e1 e2 e3
 subst e1
 have hl : (xs.take n).length = n := by rw [List.length_take, Nat.min_eq_left hn]
 refine ⟨A, c', by rw [hl], by rw [hl]; exact hc, fun hp => ?_⟩
 rw [hl] at hp
 obtain ⟨g, o, rfl, hg, he⟩ := hr (by omega)
 refine ⟨g, o, rfl, hg, fun j x hx => he j x ?_⟩
 rw [List.getElem?_take] at hx
 split at hx
 ·exact hx
 ·cases hx
def EF (w : World) (vs : Array Value) (f : RawF) : Prop := FR w (.agg vs) f
def EQ (w : World) (vs : Array Value) (q : Rat) : Prop := RQ w (.agg vs) q
theorem EF.stays : Stays EF := fun _ _ _ _ h hb => FR.of_below h hb
theorem EQ.stays : Stays EQ := fun _ _ _ _ h hb => RQ.of_below h hb
abbrev FL (w : World) (v : Value) (fs : List RawF) : Prop := SL 3 EF w v fs
abbrev QL (w : World) (v : Value) (qs : List Rat) : Prop := SL 3 EQ w v qs
theorem FL.at3 {w : World} {A : Option Addr} {n c : Nat} {fs : List RawF} (h : FL w (.slice A n c) fs) {j : Nat} {f : RawF} (hj : fs[j]? = some f) :
  ∃ g o A1 n1 c1 A2 n2 c2, A = some ⟨g, o, none⟩ ∧ g < w.heap.size ∧ w.cell? ⟨g, o + j * 3, none⟩ = some (.bool f.neg) ∧ w.cell? ⟨g, o + j * 3 + 1, none⟩ = some (.slice A1 n1 c1) ∧ w.cell? ⟨g, o + j * 3 + 2, none⟩ = some (.slice A2 n2 c2) ∧ Hid (FR w (.agg #[.bool f.neg, .slice A1 n1 c1, .slice A2 n2 c2]) f) := by
 obtain ⟨g, o, vs, hA, hg, hs, hc, he⟩ := h.at_ hj
 obtain ⟨A1, n1, c1, A2, n2, c2, e, hF⟩ := FR.opened he
 injection e with e
 subst e
 exact ⟨g, o, A1, n1, c1, A2, n2, c2, hA, hg, hc 0 _ rfl, hc 1 _ rfl, hc 2 _ rfl, hF⟩
theorem QL.at3 {w : World} {A : Option Addr} {n c : Nat} {qs : List Rat} (h : QL w (.slice A n c) qs) {j : Nat} {q : Rat} (hj : qs[j]? = some q) :
  ∃ g o A1 n1 c1 A2 n2 c2, A = some ⟨g, o, none⟩ ∧ g < w.heap.size ∧ w.cell? ⟨g, o + j * 3, none⟩ = some (.slice A1 n1 c1) ∧ w.cell? ⟨g, o + j * 3 + 1, none⟩ = some (.slice A2 n2 c2) ∧ w.cell? ⟨g, o + j * 3 + 2, none⟩ = some (.bool (negQ q)) ∧ Hid (RQ w (.agg #[.slice A1 n1 c1, .slice A2 n2 c2, .bool (negQ q)]) q) := by
 obtain ⟨g, o, vs, hA, hg, hs, hc, he⟩ := h.at_ hj
 obtain ⟨A1, n1, c1, A2, n2, c2, e, hF⟩ := RQ.opened' he
 injection e with e
 subst e
 exact ⟨g, o, A1, n1, c1, A2, n2, c2, hA, hg, hc 0 _ rfl, hc 1 _ rfl, hc 2 _ rfl, hF⟩
def Far {α : Type} (E : World → Array Value → α → Prop) : Prop := ∀ w w1 vs x g t cs, E w vs x → Blk w g t cs → (∀ x ∈ cs, notInt x = true) → w.heap.size ≤ w1.heap.size → (∀ k, k < w.heap.size → k ≠ g → w1.heap[k]? = w.heap[k]?) → E w1 vs x
def Row3 {α : Type} (t : Nat) (E : World → Array Value → α → Prop) (w : World) (g n : Nat) (xs : List α) : Prop :=
 ∃ cs : Array Value, Blk w g t cs ∧ cs.size = n * 3 ∧ (∀ x ∈ cs, notInt x = true) ∧ xs.length ≤ n ∧ ∀ j x, xs[j]? = some x → ∃ a b c, cs[j * 3]? = some a ∧ cs[j * 3 + 1]? = some b ∧ cs[j * 3 + 2]? = some c ∧ E w #[a, b, c] x
section
variable {α : Type} {E : World → Array Value → α → Prop} {w w1 : World} {g t n : Nat} {xs : List α}
theorem Row3.below (hE : Stays E) (h : Row3 t E w g n xs) (hb : Below w.heap.size w w1) : Row3 t E w1 g n xs := by
 obtain ⟨cs, hk, hs, hn, hl, he⟩ := h
 refine ⟨cs, hk.below hb hk.lt, hs, hn, hl, fun j x hx => ?_⟩
 obtain ⟨a, b, c, h0, h1, h2, h3⟩ := he j x hx
 exact ⟨a, b, c, h0, h1, h2, hE _ _ _ _ h3 hb⟩
theorem Row3.lt (h : Row3 t E w g n xs) : g < w.heap.size := by
 obtain ⟨cs, hk, _⟩ := h
 exact hk.lt
theorem Row3.cells (h : Row3 t E w g n xs) (i : Nat) (hi : i < n) : ∃ a b c, w.cell? ⟨g, i * 3, none⟩ = some a ∧ w.cell? ⟨g, i * 3 + 1, none⟩ = some b ∧ w.cell? ⟨g, i * 3 + 2, none⟩ = some c ∧ w.frozen? ⟨g, i * 3, none⟩ = false ∧ w.frozen? ⟨g, i * 3 + 1, none⟩ = false ∧ w.frozen? ⟨g, i * 3 + 2, none⟩ = false := by
 obtain ⟨cs, hk, hs, _⟩ := h
 exact ⟨cs[i * 3], cs[i * 3 + 1], cs[i * 3 + 2], hk.cell (Array.getElem?_eq_getElem (by omega)), hk.cell (Array.getElem?_eq_getElem (by omega)), hk.cell (Array.getElem?_eq_getElem (by omega)), hk.frozen _, hk.frozen _, hk.frozen _⟩
theorem Row3.push (hE : Far E) (h : Row3 t E w g n xs) {x : α} {a b c : Value} (hi : xs.length < n) (hx : E w #[a, b, c] x) (hn : ∀ u ∈ #[a, b, c], notInt u = true) :
  Row3 t E (((w.setCell ⟨g, xs.length * 3, none⟩ a).setCell ⟨g, xs.length * 3 + 1, none⟩ b).setCell ⟨g, xs.length * 3 + 2, none⟩ c) g n (xs ++ [x]) := by
 obtain ⟨cs, hk, hs, hcn, hl, he⟩ := h
 have hsz : w.heap.size ≤ (((w.setCell ⟨g, xs.length * 3, none⟩ a).setCell ⟨g, xs.length * 3 + 1, none⟩ b).setCell ⟨g, xs.length * 3 + 2, none⟩ c).heap.size := by simp [World.setCell]
 have hot : ∀ k, k < w.heap.size → k ≠ g → (((w.setCell ⟨g, xs.length * 3, none⟩ a).setCell ⟨g, xs.length * 3 + 1, none⟩ b).setCell ⟨g, xs.length * 3 + 2, none⟩ c).heap[k]? = w.heap[k]? := fun k _ hkg => by
  rw [Below.heap_setCell _ _ _ k hkg, Below.heap_setCell _ _ _ k hkg, Below.heap_setCell _ _ _ k hkg]
 have hset : ∀ {xs : Array Value} {i : Nat} {v : Value}, (∀ x ∈ xs, notInt x = true) → notInt v = true → ∀ x ∈ xs.setIfInBounds i v, notInt x = true := fun {xs i v} h1 h2 x hx => by
  rcases Array.mem_or_eq_of_mem_setIfInBounds hx with h | h
  ·exact h1 x h
  ·rw [h]; exact h2
 refine ⟨_, ((hk.put (xs.length * 3) a).put (xs.length * 3 + 1) b).put (xs.length * 3 + 2) c, by simp [hs], hset (hset (hset hcn (hn _ (by simp))) (hn _ (by simp))) (hn _ (by simp)), by simp; omega, fun j y hy => ?_⟩
 rw [List.getElem?_append] at hy
 split at hy
 ·rename_i hj
  obtain ⟨a', b', c', h0, h1, h2, h3⟩ := he j y hy
  refine ⟨a', b', c', ?_, ?_, ?_, hE _ _ _ _ _ _ _ h3 hk hcn hsz hot⟩
  ·rw [Array.getElem?_setIfInBounds_ne (by omega), Array.getElem?_setIfInBounds_ne (by omega), Array.getElem?_setIfInBounds_ne (by omega)]; exact h0
  ·rw [Array.getElem?_setIfInBounds_ne (by omega), Array.getElem?_setIfInBounds_ne (by omega), Array.getElem?_setIfInBounds_ne (by omega)]; exact h1
  ·rw [Array.getElem?_setIfInBounds_ne (by omega), Array.getElem?_setIfInBounds_ne (by omega), Array.getElem?_setIfInBounds_ne (by omega)]; exact h2
 ·rename_i hj
  have h0 : j - xs.length = 0 := by
   have := (List.getElem?_eq_some_iff.1 hy).1
   simp at this
   omega
  rw [h0] at hy
  have hxy : x = y := by simpa using hy
  subst hxy
  obtain rfl : j = xs.length := by omega
  refine ⟨a, b, c, ?_, ?_, ?_, hE _ _ _ _ _ _ _ hx hk hcn hsz hot⟩
  ·rw [Array.getElem?_setIfInBounds_ne (by omega), Array.getElem?_setIfInBounds_ne (by omega), Array.getElem?_setIfInBounds_self]; rw [if_pos (by omega)]
  ·rw [Array.getElem?_setIfInBounds_ne (by omega), Array.getElem?_setIfInBounds_self]; rw [if_pos (by simp; omega)]
  ·rw [Array.getElem?_setIfInBounds_self]; rw [if_pos (by simp; omega)]
end
theorem SL.put3 {α : Type} {E : World → Array Value → α → Prop} {w : World} {gq o n c : Nat} {xs : List α} {g t : Nat} {x y z a b d : Value} (hE : Far E) (h : SL 3 E w (.slice (some ⟨gq, o, none⟩) n c) xs) (hb : Blk w g t #[x, y, z]) (hn : ∀ u ∈ #[x, y, z], notInt u = true) (hne : gq ≠ g) :
  SL 3 E (((w.setCell ⟨g, 0, none⟩ a).setCell ⟨g, 1, none⟩ b).setCell ⟨g, 2, none⟩ d) (.slice (some ⟨gq, o, none⟩) n c) xs := by
 have hot : ∀ k, k ≠ g → (((w.setCell ⟨g, 0, none⟩ a).setCell ⟨g, 1, none⟩ b).setCell ⟨g, 2, none⟩ d).heap[k]? = w.heap[k]? := fun k hkg => by
  rw [Below.heap_setCell _ _ _ k hkg, Below.heap_setCell _ _ _ k hkg, Below.heap_setCell _ _ _ k hkg]
 have hsz : w.heap.size ≤ (((w.setCell ⟨g, 0, none⟩ a).setCell ⟨g, 1, none⟩ b).setCell ⟨g, 2, none⟩ d).heap.size := by simp [World.setCell]
 obtain ⟨A, c', e, hc, hr⟩ := h
 refine ⟨A, c', e, hc, fun hp => ?_⟩
 obtain ⟨g', o', rfl, hg, he⟩ := hr hp
 have hgq : gq = g' := by injection e with e1; injection e1 with e1; injection e1
 subst hgq
 refine ⟨gq, o', rfl, by omega, fun j y hy => ?_⟩
 obtain ⟨vs, h1, h2, h3⟩ := he j y hy
 exact ⟨vs, h1, fun i v hv => (World.cell?_of_block (a := ⟨gq, _, none⟩) (hot gq hne)).trans (h2 i v hv), hE _ _ _ _ _ _ _ h3 hb hn hsz fun k _ hk => hot k hk⟩
def Acc (W : World) (g : Nat) (q : Rat) : Prop := ∃ A1 n1 c1 A2 n2 c2, Blk W g 57 #[.slice A1 n1 c1, .slice A2 n2 c2, .bool (negQ q)] ∧ RQ W (.agg #[.slice A1 n1 c1, .slice A2 n2 c2, .bool (negQ q)]) q
theorem Acc.step {W W' : World} {g : Nat} {q : Rat} (h : Acc W g q) (hb : Below W.heap.size W W') : Acc W' g q := by
 obtain ⟨A1, n1, c1, A2, n2, c2, h1, h2⟩ := h
 exact ⟨A1, n1, c1, A2, n2, c2, h1.below hb h1.lt, h2.of_below hb⟩
theorem ni_acc {A1 A2 : Option Addr} {n1 c1 n2 c2 : Nat} {s : Bool} : ∀ u ∈ #[Value.slice A1 n1 c1, .slice A2 n2 c2, .bool s], notInt u = true := by simp [notInt]
theorem Acc.put {W : World} {g : Nat} {q p : Rat} {A1 A2 : Option Addr} {n1 c1 n2 c2 : Nat} (h : Acc W g q) (hp : RQ W (.agg #[.slice A1 n1 c1, .slice A2 n2 c2, .bool (negQ p)]) p) : Acc (((W.setCell ⟨g, 0, none⟩ (.slice A1 n1 c1)).setCell ⟨g, 1, none⟩ (.slice A2 n2 c2)).setCell ⟨g, 2, none⟩ (.bool (negQ p))) g p := by
 obtain ⟨_, _, _, _, _, _, h1, _⟩ := h
 exact ⟨A1, n1, c1, A2, n2, c2, h1.put3 _ _ _, hp.put3 h1 ni_acc _ _ _⟩
structure RowF where
 a : List RawF
 s : Int
 b : RawF
structure ProgF where
 vars : Int
 free : List Bool
 goal : List RawF
 rows : List RowF
def I64 (n : Int) : Prop := -9223372036854775808 ≤ n ∧ n ≤ 9223372036854775807
def EB (w : World) (vs : Array Value) (b : Bool) : Prop := vs = #[.bool b]
abbrev BL (w : World) (v : Value) (bs : List Bool) : Prop := SL 1 EB w v bs
def ER (w : World) (vs : Array Value) (r : RowF) : Prop := ∃ v A1 n1 c1 A2 n2 c2, vs = #[v, .int .i64 r.s, .bool r.b.neg, .slice A1 n1 c1, .slice A2 n2 c2] ∧ I64 r.s ∧ FL w v r.a ∧ FR w (.agg #[.bool r.b.neg, .slice A1 n1 c1, .slice A2 n2 c2]) r.b
abbrev RL (w : World) (v : Value) (rs : List RowF) : Prop := SL 5 ER w v rs
def PR (w : World) (v : Value) (p : ProgF) : Prop := ∃ v1 v2 v3, v = .agg #[.int .i64 p.vars, v1, v2, v3] ∧ I64 p.vars ∧ BL w v1 p.free ∧ FL w v2 p.goal ∧ RL w v3 p.rows
theorem EB.stays : Stays EB := fun _ _ _ _ h _ => h
theorem ER.stays : Stays ER := fun _ _ _ _ h hb => by
 obtain ⟨v, A1, n1, c1, A2, n2, c2, e, hs, h1, h2⟩ := h
 exact ⟨v, A1, n1, c1, A2, n2, c2, e, hs, h1.below EF.stays hb, h2.of_below hb⟩
theorem PR.of_below {w w1 : World} {v : Value} {p : ProgF} (h : PR w v p) (hb : Below w.heap.size w w1) : PR w1 v p := by
 obtain ⟨v1, v2, v3, e, hv, h1, h2, h3⟩ := h
 exact ⟨v1, v2, v3, e, hv, h1.below EB.stays hb, h2.below EF.stays hb, h3.below ER.stays hb⟩
theorem PR.opened {w : World} {v : Value} {p : ProgF} (h : PR w v p) : ∃ A1 c1 A2 c2 A3 c3, v = .agg #[.int .i64 p.vars, .slice A1 p.free.length c1, .slice A2 p.goal.length c2, .slice A3 p.rows.length c3] ∧ Hid (I64 p.vars) ∧ Hid (BL w (.slice A1 p.free.length c1) p.free) ∧ Hid (FL w (.slice A2 p.goal.length c2) p.goal) ∧ Hid (RL w (.slice A3 p.rows.length c3) p.rows) := by
 obtain ⟨v1, v2, v3, rfl, hv, h1, h2, h3⟩ := h
 obtain ⟨A1, c1, rfl, _⟩ := h1.slice
 obtain ⟨A2, c2, rfl, _⟩ := h2.slice
 obtain ⟨A3, c3, rfl, _⟩ := h3.slice
 exact ⟨A1, c1, A2, c2, A3, c3, rfl, hv, h1, h2, h3⟩
theorem bneI {a b : Int} (h : a ≠ b) : (a != b) = true := by simpa using h
theorem beqI {a b : Int} (h : a = b) : (a != b) = false := by simpa using h
theorem HS.c4 {w W : World} {bs : List (Nat × Nat × Array Value)} {g t : Nat} {a b c d : Value} (h : HS w bs W) (i : Nat) (hi : bs[i]? = some (g, t, #[a, b, c, d])) : W.cell? ⟨g, 0, none⟩ = some a ∧ W.cell? ⟨g, 1, none⟩ = some b ∧ W.cell? ⟨g, 2, none⟩ = some c ∧ W.cell? ⟨g, 3, none⟩ = some d :=
 ⟨(h.blk i hi).cell rfl, (h.blk i hi).cell rfl, (h.blk i hi).cell rfl, (h.blk i hi).cell rfl⟩
theorem capQ_zero : capQ 0 = 0 := by unfold capQ; split <;> rfl
theorem FL.nil (w : World) : FL w (.slice none 0 0) [] := ⟨none, 0, rfl, Nat.le_refl _, fun h => absurd h (by simp)⟩
end Go.Proofs.YthpkoidlpfllaaaDoor

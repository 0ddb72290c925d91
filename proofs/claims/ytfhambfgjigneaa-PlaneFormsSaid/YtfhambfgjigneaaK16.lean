/- Contracts of Go functions that the statement reaches, proved by walking their text, and plain laws over them (texts put together). -/
import Derived.Test.YtfhambfgjigneaaK15
import Derived.Test.YtfhambfgjigneaaK12
import Derived.Test.YtfhambfgjigneaaK9
import Derived.Test.YtfhambfgjigneaaK14
import Derived.Maps.OwnSet
set_option linter.unusedVariables false
set_option linter.unusedSimpArgs false
namespace Go.Proofs.Ytfhambfgjigneaa
open Go.RowKit
/-- Small enough to be told. -/
def Small (q : Rat) : Prop := sizeQ q ≤ 4096
def SmallR (r : RowQ) : Prop := (∀ q ∈ r.a, Small q) ∧ Small r.b
def SmallP (p : ProgQ) : Prop := (∀ q ∈ p.goal, Small q) ∧ ∀ r ∈ p.rows, SmallR r
theorem small_neg {q : Rat} (h : Small q) : Small (-q) := by
  unfold Small sizeQ at *
  rw [Rat.neg_num, Rat.neg_den, Int.natAbs_neg]
  exact h
theorem small_fix (f : RawF) : Small (fixQ f) := sizeQ_fix f
theorem small_clean (p : ProgF) : SmallP (cleanQ p) := ⟨fun q hq => by
  obtain ⟨f, _, rfl⟩ := List.mem_map.1 hq
  exact small_fix f, fun r hr => by
  obtain ⟨f, _, rfl⟩ := List.mem_map.1 hr
  exact ⟨fun q hq => by
    obtain ⟨g, _, rfl⟩ := List.mem_map.1 hq
    exact small_fix g, small_fix _⟩⟩
theorem SL.mapE {α β : Type} {k : Nat} {E : World → Array Value → α → Prop} {F : World → Array Value → β → Prop} {w : World} {v : Value} {xs : List α} (f : α → β) (h : SL k E w v xs) (hE : ∀ vs x, x ∈ xs → E w vs x → F w vs (f x)) : SL k F w v (xs.map f) := by
  obtain ⟨A, c, e, hc, hr⟩ := h
  refine ⟨A, c, by rw [List.length_map]; exact e, by rw [List.length_map]; exact hc, fun hp => ?_⟩
  rw [List.length_map] at hp
  obtain ⟨g, o, hA, hg, he⟩ := hr hp
  refine ⟨g, o, hA, hg, fun j y hy => ?_⟩
  rw [List.getElem?_map] at hy
  obtain ⟨x, hx, rfl⟩ := Option.map_eq_some_iff.1 hy
  obtain ⟨vs, h1, h2, h3⟩ := he j x hx
  exact ⟨vs, h1, h2, hE vs x (List.mem_of_getElem? hx) h3⟩
theorem QO.fl {base : Nat} {w : World} {v : Value} {qs : List Rat} (h : QO base w v qs) (hs : ∀ q ∈ qs, Small q) : FL w v (qs.map rawQ) :=
  SL.mapE rawQ (OL.sl h) fun vs q hq he => FR.of_fq he (hs q hq)
theorem neg_raw {qs : List Rat} (hs : ∀ q ∈ qs, Small q) : (qs.map rawQ).map negF = qs.map fun q => -q := by
  rw [List.map_map]
  refine List.map_congr_left fun q hq => ?_
  show negF (rawQ q) = -q
  unfold negF
  rw [fixQ_raw q (hs q hq)]
theorem set_eq5 {i j k m : Nat} (hj : j < 5) (hne : k ≠ i) (hm : m < 5) : i * 5 + j ≠ k * 5 + m := by omega
def set5 (xs : List Value) (o : Nat) (a b c d e : Value) : List Value := ((((xs.set o a).set (o + 1) b).set (o + 2) c).set (o + 3) d).set (o + 4) e
theorem set5_length (xs : List Value) (o : Nat) (a b c d e : Value) : (set5 xs o a b c d e).length = xs.length := by unfold set5; simp
theorem set5_other {xs : List Value} {o k : Nat} {a b c d e : Value} (h : k < o ∨ o + 5 ≤ k) : (set5 xs o a b c d e)[k]? = xs[k]? := by
  unfold set5
  rw [List.getElem?_set_ne (by omega), List.getElem?_set_ne (by omega), List.getElem?_set_ne (by omega), List.getElem?_set_ne (by omega), List.getElem?_set_ne (by omega)]
theorem set5_in {xs : List Value} {o : Nat} {a b c d e : Value} (h : o + 5 ≤ xs.length) : ∀ i u, #[a, b, c, d, e][i]? = some u → (set5 xs o a b c d e)[o + i]? = some u := fun i u hi => by
  have hi5 : i < 5 := (Array.getElem?_eq_some_iff.1 hi).1
  unfold set5
  match i, hi5 with
  | 0, _ => rw [show u = a by simpa using hi.symm, List.getElem?_set_ne (by omega), List.getElem?_set_ne (by omega), List.getElem?_set_ne (by omega), List.getElem?_set_ne (by omega), Nat.add_zero, List.getElem?_set_self (by omega)]
  | 1, _ => rw [show u = b by simpa using hi.symm, List.getElem?_set_ne (by omega), List.getElem?_set_ne (by omega), List.getElem?_set_ne (by omega), List.getElem?_set_self (by simp; omega)]
  | 2, _ => rw [show u = c by simpa using hi.symm, List.getElem?_set_ne (by omega), List.getElem?_set_ne (by omega), List.getElem?_set_self (by simp; omega)]
  | 3, _ => rw [show u = d by simpa using hi.symm, List.getElem?_set_ne (by omega), List.getElem?_set_self (by simp; omega)]
  | 4, _ => rw [show u = e by simpa using hi.symm, List.getElem?_set_self (by simp; omega)]
def put5 (w : World) (g o : Nat) (a b c d e : Value) : World := ((((w.setCell ⟨g, o, none⟩ a).setCell ⟨g, o + 1, none⟩ b).setCell ⟨g, o + 2, none⟩ c).setCell ⟨g, o + 3, none⟩ d).setCell ⟨g, o + 4, none⟩ e
theorem put5_other (w : World) (g o : Nat) (a b c d e : Value) {k : Nat} (hk : k ≠ g) : (put5 w g o a b c d e).heap[k]? = w.heap[k]? := by
  unfold put5
  rw [Below.heap_setCell _ _ _ k hk, Below.heap_setCell _ _ _ k hk, Below.heap_setCell _ _ _ k hk, Below.heap_setCell _ _ _ k hk, Below.heap_setCell _ _ _ k hk]
theorem put5_size (w : World) (g o : Nat) (a b c d e : Value) : (put5 w g o a b c d e).heap.size = w.heap.size := by simp [put5, World.setCell]
/-- A row of a list of the call's own, written anew. -/
theorem RO.set {base : Nat} {w : World} {n c i g : Nat} {rs : List RowQ} {r' : RowQ} {a b d e f : Value} (h : RO base w (.slice (some ⟨g, 0, none⟩) n c) rs) (hi : i < rs.length) (hw : ∀ u ∈ #[a, b, d, e, f], notWord u = true)
    (hr : ∀ w1, Chg base 65 w w1 → ERO base w1 #[a, b, d, e, f] r') : RO base (put5 w g (i * 5) a b d e f) (.slice (some ⟨g, 0, none⟩) n c) (rs.set i r') ∧ Chg base 65 w (put5 w g (i * 5) a b d e f) := by
  obtain ⟨xs, ⟨hl, h1⟩, h2⟩ := h
  rcases h1 with ⟨e0, h0⟩ | ⟨g', cap, cur, e1, hb, hbl, hnc, hcm, hcs, htake, hcw⟩
  · omega
  · injection e1 with e1 e2 e3
    injection e1 with e1
    injection e1 with e1
    subst e1 e3
    have hcg : Chg base 65 w (put5 w g (i * 5) a b d e f) := Chg.own hbl hb (Keeps.apart hbl hcw (by rw [put5_size]; exact Nat.le_refl _) fun k _ hk => put5_other _ _ _ _ _ _ _ _ hk) fun k _ hk => put5_other _ _ _ _ _ _ _ _ hk
    have hlim : i * 5 + 5 ≤ xs.length := by rw [hl]; omega
    refine ⟨⟨set5 xs (i * 5) a b d e f, ⟨by rw [set5_length, List.length_set]; exact hl, .inr ⟨g, c, (((((cur.setIfInBounds (i * 5) a).setIfInBounds (i * 5 + 1) b).setIfInBounds (i * 5 + 2) d).setIfInBounds (i * 5 + 3) e).setIfInBounds (i * 5 + 4) f), by rw [List.length_set, e2], hb, ((((hbl.put _ a).put _ b).put _ d).put _ e).put _ f, by rw [List.length_set]; exact hnc, hcm, by simpa using hcs, ?_, fun u hu => ?_⟩⟩, fun j y hj => ?_⟩, hcg⟩
    · rw [List.length_set]
      simp only [Array.toList_setIfInBounds]
      rw [List.take_set, List.take_set, List.take_set, List.take_set, List.take_set, htake]
      rfl
    · have key : ∀ (cs : Array Value) (k : Nat) (z : Value), (∀ u ∈ cs, notWord u = true) → notWord z = true → ∀ u ∈ cs.setIfInBounds k z, notWord u = true := fun cs k z h1 h2 u hu => by
        rcases Array.mem_or_eq_of_mem_setIfInBounds hu with h | h
        · exact h1 u h
        · rw [h]; exact h2
      exact key _ _ _ (key _ _ _ (key _ _ _ (key _ _ _ (key _ _ _ hcw (hw a (by simp))) (hw b (by simp))) (hw d (by simp))) (hw e (by simp))) (hw f (by simp)) u hu
    · by_cases hji : j = i
      · subst hji
        rw [List.getElem?_set_self hi] at hj
        injection hj with hj
        subst hj
        exact ⟨#[a, b, d, e, f], rfl, set5_in hlim, hr _ hcg⟩
      · rw [List.getElem?_set_ne (Ne.symm hji)] at hj
        obtain ⟨vs, h3, h4, h5⟩ := h2 j y hj
        refine ⟨vs, h3, fun k u hk => ?_, ERO.leans (by decide) _ _ _ _ h5 hcg⟩
        have hk5 : k < 5 := by have := (Array.getElem?_eq_some_iff.1 hk).1; omega
        rw [set5_other (by omega)]
        exact h4 k u hk
theorem RO.at5 {base : Nat} {w : World} {A : Option Addr} {n c : Nat} {rs : List RowQ} (h : RO base w (.slice A n c) rs) {j : Nat} {r : RowQ} (hj : rs[j]? = some r) :
    ∃ g A1 c1 A2 n2 c2 A3 n3 c3, A = some ⟨g, 0, none⟩ ∧ base ≤ g ∧ g < w.heap.size ∧ w.cell? ⟨g, j * 5, none⟩ = some (.slice A1 r.a.length c1) ∧ w.cell? ⟨g, j * 5 + 1, none⟩ = some (.int .i64 r.s) ∧ w.cell? ⟨g, j * 5 + 2, none⟩ = some (.bool (negQ r.b)) ∧
      w.cell? ⟨g, j * 5 + 3, none⟩ = some (.slice A2 n2 c2) ∧ w.cell? ⟨g, j * 5 + 4, none⟩ = some (.slice A3 n3 c3) ∧ (∀ k, w.frozen? ⟨g, k, none⟩ = false) ∧ Hid (I64 r.s) ∧ Hid (QO base w (.slice A1 r.a.length c1) r.a) ∧ Hid (FQ w (.agg #[.bool (negQ r.b), .slice A2 n2 c2, .slice A3 n3 c3]) r.b) := by
  obtain ⟨xs, ⟨hl, h1⟩, h2⟩ := h
  rcases h1 with ⟨e0, h0⟩ | ⟨g, cap, cur, e1, hb, hbl, hnc, hcm, hcs, htake, hcw⟩
  · have := (List.getElem?_eq_some_iff.1 hj).1
    omega
  · injection e1 with e1 e2 e3
    subst e1 e3
    obtain ⟨vs, h3, h4, v, A2, n2, c2, A3, n3, c3, rfl, hI, h5, h6⟩ := h2 j r hj
    obtain ⟨A1, c1, rfl, _⟩ := OL.slice h5
    have hc : ∀ k u, #[Value.slice A1 r.a.length c1, .int .i64 r.s, .bool (negQ r.b), .slice A2 n2 c2, .slice A3 n3 c3][k]? = some u → w.cell? ⟨g, j * 5 + k, none⟩ = some u := fun k u hk => by
      have h7 := h4 k u hk
      refine hbl.cell ?_
      rw [← htake, List.getElem?_take] at h7
      split at h7
      · simpa using h7
      · cases h7
    exact ⟨g, A1, c1, A2, n2, c2, A3, n3, c3, rfl, hb, hbl.lt, hc 0 _ rfl, hc 1 _ rfl, hc 2 _ rfl, hc 3 _ rfl, hc 4 _ rfl, fun k => hbl.frozen k, hI, h5, h6⟩
def normR (r : RowQ) : RowQ := if r.s = 1 then ⟨r.a.map fun q => -q, -1, -r.b⟩ else r
def normQ (p : ProgQ) : ProgQ := ⟨p.vars, p.free, p.goal, p.rows.map normR⟩
def zeroP : ProgQ := ⟨0, [], [], []⟩
theorem small_norm {p : ProgQ} (h : SmallP p) : SmallP (normQ p) := ⟨h.1, fun r hr => by
  obtain ⟨x, hx, rfl⟩ := List.mem_map.1 hr
  have := h.2 x hx
  unfold normR
  split
  · exact ⟨fun q hq => by
      obtain ⟨z, hz, rfl⟩ := List.mem_map.1 hq
      exact small_neg (this.1 z hz), small_neg this.2⟩
  · exact this⟩
theorem PO.zero (base : Nat) (w : World) : PO base w (.agg #[.int .i64 0, .slice none 0 0, .slice none 0 0, .slice none 0 0]) zeroP :=
  ⟨_, _, _, rfl, by unfold I64 zeroP; decide, ⟨⟨none, 0, rfl, Nat.le_refl _, fun h => absurd h (by simp [zeroP])⟩, fun g hg _ => by simp [Value.ownBlock] at hg⟩, OL.nil _ _ _ _ _, OL.nil _ _ _ _ _⟩
theorem PO.opened {base : Nat} {w : World} {v : Value} {p : ProgQ} (h : PO base w v p) : ∃ A1 c1 A2 c2 A3 c3, v = .agg #[.int .i64 p.vars, .slice A1 p.free.length c1, .slice A2 p.goal.length c2, .slice A3 p.rows.length c3] ∧ Hid (I64 p.vars) ∧ Hid (FrO base w (.slice A1 p.free.length c1) p.free) ∧ Hid (QO base w (.slice A2 p.goal.length c2) p.goal) ∧ Hid (RO base w (.slice A3 p.rows.length c3) p.rows) := by
  obtain ⟨v1, v2, v3, rfl, hv, h1, h2, h3⟩ := h
  obtain ⟨A1, c1, rfl, _⟩ := h1.1.slice
  obtain ⟨A2, c2, rfl, _⟩ := OL.slice h2
  obtain ⟨A3, c3, rfl, _⟩ := OL.slice h3
  exact ⟨A1, c1, A2, c2, A3, c3, rfl, hv, h1, h2, h3⟩
theorem RO.lower {base base' : Nat} {w : World} {v : Value} {rs : List RowQ} (h : RO base w v rs) (hb : base' ≤ base) : RO base' w v rs := by
  obtain ⟨xs, h3, h4⟩ := h
  refine ⟨xs, h3.lower hb, fun j a hj => ?_⟩
  obtain ⟨vs, h5, h6, v, B1, m1, d1, B2, m2, d2, e2, h7, h8, h9⟩ := h4 j a hj
  exact ⟨vs, h5, h6, v, B1, m1, d1, B2, m2, d2, e2, h7, QO.lower h8 hb, h9⟩
/-- What Normal, Dual, Fixed answer: a program of the call's own, and an error. -/
def NPost (w : World) (p : ProgQ) (n : Int) (e : Ending) (w' : World) : Prop := ∃ v, e = .returned (.tuple #[v, .int .i64 n]) ∧ PO w.heap.size w' v p ∧ Below w.heap.size w w'
theorem ret26i {fn : Func} {p t : Tmp} {Post : Ending → World → Prop} {tmps : Array Value} {w : World} {g : Nat} {a b c d r : Value} (hres : fn.results = #[.cell p 26, .tmp t]) (hp : tmps.getD p undef = .pointer (some ⟨g, 0, none⟩)) (ht : tmps.getD t undef = r) (hb : Blk w g 26 #[a, b, c, d])
    (hP : Post (.returned (.tuple #[.agg #[a, b, c, d], r])) w) : bodyPost Try.prog fn Post Exit.ret { tmps := tmps, defers := [] } w := by
  refine bodyPost_ret (v := .tuple #[.agg #[a, b, c, d], r]) ?_ rfl hP
  have hp' : tmps[p]?.getD undef = .pointer (some ⟨g, 0, none⟩) := by simpa using hp
  have ht' : tmps[t]?.getD undef = r := by simpa using ht
  simp [results, hres, hp', ht', asAddr, run_loadVar_row (P := Try.prog) w g 26 26 #[a, b, c, d] (0, 0) _ hb Try.underlying26 rfl info26s]
end Go.Proofs.Ytfhambfgjigneaa
set_option linter.unusedVariables false
set_option linter.unusedSimpArgs false
namespace Go.Proofs.Ytfhambfgjigneaa
open Go.RowKit
noncomputable def normalR (p : ProgF) : ProgQ := if rightP p = 0 then normQ (cleanQ p) else zeroP
theorem rclean_v (w : World) (vars : Int) (A1 A2 A3 : Option Addr) (c1 c2 c3 : Nat) (p : ProgF) (hv : vars = p.vars) (h : PR w (.agg #[.int .i64 vars, .slice A1 p.free.length c1, .slice A2 p.goal.length c2, .slice A3 p.rows.length c3]) p) (hlf : p.free.length ≤ 1000) (hlg : p.goal.length ≤ 1000) (hlr : p.rows.length ≤ 1000) (hla : ∀ r ∈ p.rows, r.a.length ≤ 1000) :
    Calls Try.prog 43 #[.agg #[.int .i64 vars, .slice A1 p.free.length c1, .slice A2 p.goal.length c2, .slice A3 p.rows.length c3]] w fun e w' => XPost w (.slice A1 p.free.length c1) (cleanQ p) e w' := by
  subst hv
  exact rclean26_calls w A1 A2 A3 c1 c2 c3 p h hlf hlg hlr hla
theorem norm_at {rq : List RowQ} {i : Nat} {r : RowQ} (h : rq[i]? = some r) : ((rq.take i).map normR ++ rq.drop i)[i]? = some r := by
  have hl := (List.getElem?_eq_some_iff.1 h).1
  rw [List.getElem?_append_right (by simp; omega)]
  simp only [List.length_map, List.length_take]
  rw [show i - min i rq.length = 0 by omega, List.getElem?_drop]
  simpa using h
theorem norm_step {rq : List RowQ} {i : Nat} {r : RowQ} (h : rq[i]? = some r) : ((rq.take i).map normR ++ rq.drop i).set i (normR r) = (rq.take (i + 1)).map normR ++ rq.drop (i + 1) := by
  obtain ⟨hl, e⟩ := List.getElem?_eq_some_iff.1 h
  rw [List.set_append_right _ _ (by simp; omega)]
  simp only [List.length_map, List.length_take]
  rw [show i - min i rq.length = 0 by omega, List.drop_eq_getElem_cons hl, List.set_cons_zero, List.take_add_one, h, List.map_append, List.append_assoc]
  rfl
theorem set_same {α : Type} {l : List α} {i : Nat} {x : α} (h : l[i]? = some x) : l.set i x = l := by
  obtain ⟨hl, e⟩ := List.getElem?_eq_some_iff.1 h
  rw [← e]
  exact List.set_getElem_self hl
theorem row_word5 {v : Value} {s : Int} {b : Bool} {A0 A1 A2 : Option Addr} {n0 c0 n1 c1 n2 c2 : Nat} (hv : v = .slice A0 n0 c0) : ∀ u ∈ #[v, .int .i64 s, .bool b, .slice A1 n1 c1, .slice A2 n2 c2], notWord u = true := by
  intro u hu
  exact row_word (A0 := A0) (n0 := n0) (c0 := c0) hv u (by simpa using hu)
set_option maxHeartbeats 32000000 in
set_option maxRecDepth 100000 in
theorem pnormal_calls (w : World) (v : Value) (p : ProgF) (h : PR w v p) : Calls Try.prog 12 #[v] w fun e w' => NPost w (normalR p) (rightP p) e w' := by
  have HP := Lib.hid h
  obtain ⟨A1, c1, A2, c2, A3, c3, rfl, HI, H1, H2, H3⟩ := h.opened
  clear h
  obtain ⟨vars, hv⟩ : ∃ n, n = p.vars := ⟨_, rfl⟩
  rw [← hv] at HP ⊢
  have HV := Lib.hid hv
  clear hv
  go_enter Try.func12, Try.ntmps12
  go_wp2_with fail
  have H0 := Lib.hid (HS.two (w := w) #[.int .i64 vars, .slice A1 p.free.length c1, .slice A2 p.goal.length c2, .slice A3 p.rows.length c3] #[.int .i64 0, .slice none 0 0, .slice none 0 0, .slice none 0 0] 26 26)
  have hsz0 : ((w.alloc (.cells #[.int .i64 vars, .slice A1 p.free.length c1, .slice A2 p.goal.length c2, .slice A3 p.rows.length c3] 26)).alloc (.cells #[.int .i64 0, .slice none 0 0, .slice none 0 0, .slice none 0 0] 26)).heap.size = w.heap.size + 2 := by simp
  generalize (w.alloc (.cells #[.int .i64 vars, .slice A1 p.free.length c1, .slice A2 p.goal.length c2, .slice A3 p.rows.length c3] 26)).alloc (.cells #[.int .i64 0, .slice none 0 0, .slice none 0 0, .slice none 0 0] 26) = W0 at *
  have hsz1 : w.heap.size + 2 ≤ W0.heap.size := by omega
  clear hsz0
  refine (pright_calls W0 _ p (HP.out.of_below H0.out.2)).mono ?_
  rintro e w1 ⟨rfl, hb⟩
  have K1 := Lib.hid (H0.out.step hb)
  have hsz2 : w.heap.size + 2 ≤ w1.heap.size := by have := hb.size; omega
  obtain ⟨x0, x1, x2, x3⟩ := K1.out.c4 1 rfl
  have hlt1 := (K1.out.blk 1 rfl).lt
  clear hb hsz1
  by_cases q1 : rightP p = 0
  case neg =>
    have u1 : (rightP p != 0) = true := bneI q1
    have HN : Hid (normalR p = zeroP) := by unfold Hid normalR; rw [if_neg q1]
    obtain ⟨j0, j1, j2, j3⟩ := (K1.out.blk 0 rfl).c4
    obtain ⟨f0, f1, f2, f3⟩ := (K1.out.blk 0 rfl).f4
    have hlt0 := (K1.out.blk 0 rfl).lt
    clear q1
    go_wp2_with fail
    rw [HN.out]
    exact ret26i Try.results12 rfl rfl ((K1.out.blk 0 rfl).put4 _ _ _ _) ⟨_, rfl, PO.zero _ _, below_put4 K1.out.2 (by simp) _ _ _ _⟩
  have u1 : (rightP p != 0) = false := beqI q1
  have hrl := rightP_len q1
  have HN : Hid (normalR p = normQ (cleanQ p)) := by unfold Hid normalR; rw [if_pos q1]
  have HRZ := Lib.hid q1
  have hlf : p.free.length ≤ 1000 := by have := hrl.1; have := hrl.2.2.2.1; omega
  have hlg : p.goal.length ≤ 1000 := by have := hrl.2.1; have := hrl.2.2.2.1; omega
  have hlr : p.rows.length ≤ 1000 := by have := hrl.2.2.2.2.1; omega
  have HLA : Hid (∀ r ∈ p.rows, r.a.length ≤ 1000) := fun r hr => by have := (hrl.2.2.2.2.2 r hr).1; have := hrl.2.2.2.1; omega
  clear q1 hrl
  go_wp2_with fail
  refine (clean_calls w1 _ p (HP.out.of_below K1.out.2) hlf hlg hlr HLA.out).mono ?_
  rintro e w2 ⟨v1, v2, v3, rfl, hfr, hq, hro, hb⟩
  rw [show (cleanQ p).vars = vars from HV.out.symm]
  have hq' : QO w.heap.size w2 v2 (p.goal.map fixQ) := hq.lower (Nat.le_trans (Nat.le_add_right _ 2) hsz2)
  have hro' : RO w.heap.size w2 v3 (p.rows.map cleanR) := RO.lower hro (Nat.le_trans (Nat.le_add_right _ 2) hsz2)
  obtain ⟨B2, d2, ev2, _⟩ := hq'.slice
  rw [List.length_map] at ev2
  subst ev2
  obtain ⟨B3, d3, ev3, _⟩ := OL.slice hro'
  rw [List.length_map] at ev3
  subst ev3
  have hfr' : FrO 0 w2 v1 p.free := hfr
  obtain ⟨B1, d1, rfl, _⟩ := hfr'.1.slice
  have K2 := Lib.hid (K1.out.step hb)
  have hsz3 : w.heap.size + 2 ≤ w2.heap.size := by have := hb.size; omega
  obtain ⟨x0, x1, x2, x3⟩ := K2.out.c4 1 rfl
  have hlt2 := (K2.out.blk 1 rfl).lt
  clear hq hro hb hfr hsz2
  go_wp2_with fail
  have hbn := below_new w2 (.cells #[.int .i64 vars, .slice B1 p.free.length d1, .slice B2 p.goal.length d2, .slice B3 p.rows.length d3] 26)
  have HBc := Lib.hid (Blk.new w2 26 #[.int .i64 vars, .slice B1 p.free.length d1, .slice B2 p.goal.length d2, .slice B3 p.rows.length d3])
  have HFc := Lib.hid (hfr'.below hbn)
  have HQc := Lib.hid (OL.below EFQ.stays hq' hbn)
  have HRc := Lib.hid (OL.below ERO.stays hro' hbn)
  have HSc := Lib.hid (K2.out.step hbn)
  obtain ⟨gq, hgq⟩ : ∃ g, g = w2.heap.size := ⟨_, rfl⟩
  rw [← hgq] at HBc
  have hgq2 : w.heap.size + 2 ≤ gq := by omega
  generalize w2.alloc (.cells #[.int .i64 vars, .slice B1 p.free.length d1, .slice B2 p.goal.length d2, .slice B3 p.rows.length d3] 26) = Wc at *
  rw [← hgq]
  clear hgq hbn hfr' hq' hro' x0 x1 x2 x3 hlt2 K2 hsz3
  obtain ⟨qg, hqg⟩ : ∃ q, q = p.goal.map fixQ := ⟨_, rfl⟩
  rw [← hqg] at HQc
  have HQG := Lib.hid hqg
  obtain ⟨rq, hrq⟩ : ∃ q, q = p.rows.map cleanR := ⟨_, rfl⟩
  rw [← hrq] at HRc
  have HRQ := Lib.hid hrq
  have HRL : Hid (rq.length = p.rows.length) := by unfold Hid; rw [hrq, List.length_map]
  have HSM : Hid (∀ r ∈ rq, SmallR r ∧ r.a.length ≤ 1000) := fun r hr => ⟨(small_clean p).2 r (by rw [hrq] at hr; exact hr), by
    rw [hrq] at hr
    obtain ⟨f, hf, rfl⟩ := List.mem_map.1 hr
    unfold cleanR
    simp only [List.length_map]
    exact HLA.out f hf⟩
  clear hqg hrq
  obtain ⟨i0, i1, i2, i3⟩ := HBc.out.c4
  have hltq := HBc.out.lt
  go_wp2_with fail
  clear i0 i1 i2 i3 hltq
  go_loopw [19] (fun vi wr => ∃ i : Nat, i ≤ p.rows.length ∧ vi = .int .i64 (i : Int) ∧ Blk wr gq 26 #[.int .i64 vars, .slice B1 p.free.length d1, .slice B2 p.goal.length d2, .slice B3 p.rows.length d3] ∧ RO w.heap.size wr (.slice B3 p.rows.length d3) ((rq.take i).map normR ++ rq.drop i) ∧ FrO 0 wr (.slice B1 p.free.length d1) p.free ∧ QO w.heap.size wr (.slice B2 p.goal.length d2) qg ∧ HS w [(w.heap.size + 1, 26, #[.int .i64 0, .slice none 0 0, .slice none 0 0, .slice none 0 0]), (w.heap.size, 26, #[.int .i64 vars, .slice A1 p.free.length c1, .slice A2 p.goal.length c2, .slice A3 p.rows.length c3])] wr) (fun vi _ => p.rows.length - (intOf vi).toNat)
  case atStart => exact ⟨0, Nat.zero_le _, rfl, HBc.out, HRc.out, HFc.out, HQc.out, HSc.out⟩
  case round =>
    obtain ⟨i, hi, rfl, hbq, hro, hfr, hqo, hs⟩ := hrel
    have HBQ := Lib.hid hbq
    have HRO := Lib.hid hro
    have HFR := Lib.hid hfr
    have HQO := Lib.hid hqo
    have HK := Lib.hid hs
    clear hbq hro hfr hqo hs HBc HRc HFc HQc HSc K1 H0
    by_cases hlt : i < p.rows.length
    · obtain ⟨r, hr'⟩ : ∃ r, rq[i]? = some r := ⟨rq[i]'(by rw [HRL.out]; exact hlt), List.getElem?_eq_getElem _⟩
      obtain ⟨cur, hcur⟩ : ∃ c, c = (rq.take i).map normR ++ rq.drop i := ⟨_, rfl⟩
      have hci : cur[i]? = some r := by rw [hcur]; exact norm_at hr'
      have HNX : Hid (cur.set i (normR r) = (rq.take (i + 1)).map normR ++ rq.drop (i + 1)) := by unfold Hid; rw [hcur]; exact norm_step hr'
      have hcl : cur.length = p.rows.length := by rw [hcur, ← HRL.out]; simp; omega
      have HCL := Lib.hid hcl
      have HCI := Lib.hid hci
      rw [← hcur] at HRO
      obtain ⟨g5, C1, e1, C2, n2, e2, C3, n3, e3, rfl, hg5, hg5l, k0, k1, k2, k3, k4, _, HIS, HRA, HRB⟩ := RO.at5 HRO.out hci
      have HS2 := Lib.hid (HSM.out r (List.mem_of_getElem? hr')).1
      have hra : r.a.length ≤ 1000000000 := by have := (HSM.out r (List.mem_of_getElem? hr')).2; omega
      have HRP := Lib.hid hr'
      have m1 : (i : Int) < (p.rows.length : Int) := by omega
      have m3 : (i : Int).toNat = i := by omega
      have m4 : (0 : Int) ≤ (i : Int) := by omega
      obtain ⟨s, hs⟩ : ∃ s, s = r.s := ⟨_, rfl⟩
      rw [← hs] at k1
      have HSE := Lib.hid hs
      have hltq := HBQ.out.lt
      clear hr' hs hci hcl hcur
      have HRoundN : Hid (∀ wz, Blk wz gq 26 #[.int .i64 vars, .slice B1 p.free.length d1, .slice B2 p.goal.length d2, .slice (some ⟨g5, 0, none⟩) p.rows.length d3] → RO w.heap.size wz (.slice (some ⟨g5, 0, none⟩) p.rows.length d3) (cur.set i (normR r)) → FrO 0 wz (.slice B1 p.free.length d1) p.free → QO w.heap.size wz (.slice B2 p.goal.length d2) qg → HS w [(w.heap.size + 1, 26, #[.int .i64 0, .slice none 0 0, .slice none 0 0, .slice none 0 0]), (w.heap.size, 26, #[.int .i64 vars, .slice A1 p.free.length c1, .slice A2 p.goal.length c2, .slice A3 p.rows.length c3])] wz → ∃ i', i' ≤ p.rows.length ∧ Value.int .i64 ((i : Int) + 1) = .int .i64 (i' : Int) ∧ Blk wz gq 26 #[.int .i64 vars, .slice B1 p.free.length d1, .slice B2 p.goal.length d2, .slice (some ⟨g5, 0, none⟩) p.rows.length d3] ∧ RO w.heap.size wz (.slice (some ⟨g5, 0, none⟩) p.rows.length d3) ((rq.take i').map normR ++ rq.drop i') ∧ FrO 0 wz (.slice B1 p.free.length d1) p.free ∧ QO w.heap.size wz (.slice B2 p.goal.length d2) qg ∧ HS w [(w.heap.size + 1, 26, #[.int .i64 0, .slice none 0 0, .slice none 0 0, .slice none 0 0]), (w.heap.size, 26, #[.int .i64 vars, .slice A1 p.free.length c1, .slice A2 p.goal.length c2, .slice A3 p.rows.length c3])] wz) := by
        intro wz h1 h2 h3 h4 h5
        rw [HNX.out] at h2
        exact ⟨i + 1, by omega, by go_num, h1, h2, h3, h4, h5⟩
      by_cases q1 : s = 1
      case neg =>
        have u1 : (s == 1) = false := bneI' q1
        have HSet : Hid (cur.set i (normR r) = cur) := by
          unfold Hid
          have : normR r = r := by unfold normR; rw [if_neg (by rw [← HSE.out]; exact q1)]
          rw [this]
          exact set_same HCI.out
        clear q1
        go_wp2_with fail
        go_roundw
        case rel =>
          have hbn := below_new wr (.cells #[.slice C1 r.a.length e1, .int .i64 s, .bool (negQ r.b), .slice C2 n2 e2, .slice C3 n3 e3] 65)
          exact HRoundN.out _ (HBQ.out.below hbn HBQ.out.lt) (by rw [HSet.out]; exact OL.below ERO.stays HRO.out hbn) (HFR.out.below hbn) (OL.below EFQ.stays HQO.out hbn) (HK.out.step hbn)
        case measure => simp [intOf]; omega
      have u1 : (s == 1) = true := beqI' q1
      have HNR : Hid (normR r = ⟨r.a.map fun q => -q, -1, -r.b⟩) := by unfold Hid normR; rw [if_pos (by rw [← HSE.out]; exact q1)]
      clear q1
      go_wp2_with fail
      have HB1 := Lib.hid (below_new wr (.cells #[.slice C1 r.a.length e1, .int .i64 s, .bool (negQ r.b), .slice C2 n2 e2, .slice C3 n3 e3] 65))
      have HKB1 := Lib.hid (Blk.new wr 65 #[.slice C1 r.a.length e1, .int .i64 s, .bool (negQ r.b), .slice C2 n2 e2, .slice C3 n3 e3])
      obtain ⟨gr, hgr⟩ : ∃ gr, gr = wr.heap.size := ⟨_, rfl⟩
      rw [← hgr] at HKB1
      generalize wr.alloc (.cells #[.slice C1 r.a.length e1, .int .i64 s, .bool (negQ r.b), .slice C2 n2 e2, .slice C3 n3 e3] 65) = W1 at *
      rw [← hgr]
      clear hgr k0 k1 k2 k3 k4
      have z0 := HKB1.out.cell (j := 0) rfl
      have z1 := HKB1.out.cell (j := 1) rfl
      have z2 := HKB1.out.cell (j := 2) rfl
      have z3 := HKB1.out.cell (j := 3) rfl
      have z4 := HKB1.out.cell (j := 4) rfl
      have hzl := HKB1.out.lt
      obtain ⟨i0, i1, i2, i3⟩ := (HBQ.out.below HB1.out HBQ.out.lt).c4
      have hltq1 := (HBQ.out.below HB1.out HBQ.out.lt).lt
      refine wp_chainF (l := [_, _, _, _, _, _, _, _, _, _, _, _]) (S := Below W1.heap.size W1) 11 [([0, 1, 2, 3, 4, 6, 7], 5), ([], 8)] [9, 10] (by kernel_rfl) (by kernel_rfl) (by kernel_rfl) rfl (Below.drew (Below.refl _ _)) ?_
      refine ⟨?_, _, ?_, rfl, ?_⟩
      rotate_left
      · repeat (refine ⟨_, ?_, rfl, Or.inl ⟨by rfl, ?_⟩, ?_⟩; rotate_left; focus (intro W hW; have hcW := (bcell hW).1; clear hW; go_simp; try with_reducible rfl); (try simp only [Act.put, List.getElem_toArray, List.getElem_cons_succ, List.getElem_cons_zero, List.setIfInBounds_toArray, List.set_cons_zero, List.set_cons_succ]))
        exact rfl
      have D0 : Hid (Below W1.heap.size W1 W1.drew) := Below.drew (Below.refl _ _)
      have F0 := Lib.hid (below_next HB1.out D0.out)
      go_wp2_with fail
      refine (negated_calls _ _ (r.a.map rawQ) (QO.fl (OL.below EFQ.stays HRA.out F0.out) HS2.out.1) (by rw [List.length_map]; exact hra)).mono ?_
      rintro e W2 ⟨v2, rfl, hq, hb⟩
      rw [neg_raw HS2.out.1] at hq
      have hwl : w.heap.size ≤ W1.drew.heap.size := by have := F0.out.size; have := HK.out.2.size; omega
      have hq' := QO.lower hq hwl
      obtain ⟨C4, e4, hv2, _⟩ := hq'.slice
      rw [List.length_map] at hv2
      subst hv2
      have HQ2 := Lib.hid hq'
      have D2 := Lib.hid (below_next D0.out hb)
      have F2 := Lib.hid (below_next HB1.out D2.out)
      clear hq hq' hb
      go_wp2_with fail
      refine And.intro D2.out ⟨_, _, rfl, rfl, ?_⟩
      go_wp2_with fail
      refine (fneg_calls _ _ (rawQ r.b) (FR.of_fq (HRB.out.of_below F2.out) HS2.out.2)).mono ?_
      rintro e W3 ⟨v3, rfl, hv, hb⟩
      rw [fixQ_raw _ HS2.out.2] at hv
      obtain ⟨C5, n5, e5, C6, n6, e6, rfl, HV3⟩ := hv.opened
      have HQ3 := Lib.hid (OL.below EFQ.stays HQ2.out hb)
      have D3 := Lib.hid (below_next D2.out hb)
      have F3 := Lib.hid (below_next HB1.out D3.out)
      clear hv hb
      have HRO3 := Lib.hid (OL.below ERO.stays HRO.out F3.out)
      obtain ⟨g5', G1, h1, G2, n2', h2, G3, n3', h3, ee, _, hg5l', k0, k1, k2, k3, k4, hfz, _, _, _⟩ := RO.at5 HRO3.out HCI.out
      injection ee with ee
      injection ee with ee
      subst ee
      have hf0 := hfz (i * 5)
      have hf1 := hfz (i * 5 + 1)
      have hf2 := hfz (i * 5 + 2)
      have hf3 := hfz (i * 5 + 3)
      have hf4 := hfz (i * 5 + 4)
      have HBQ3 := Lib.hid (HBQ.out.below F3.out HBQ.out.lt)
      obtain ⟨i0, i1, i2, i3⟩ := HBQ3.out.c4
      have hltq3 := HBQ3.out.lt
      clear hfz
      go_wp2_with fail
      refine And.intro D3.out ⟨?_, ?_, ?_⟩
      rotate_left
      · repeat (refine ⟨_, ?_, rfl, Or.inl ⟨by rfl, ?_⟩, ?_⟩; rotate_left; focus (intro W hW; have hcW := (bcell hW).1; clear hW; go_simp; try with_reducible rfl); (try simp only [Act.put, List.getElem_toArray, List.getElem_cons_succ, List.getElem_cons_zero, List.setIfInBounds_toArray, List.set_cons_zero, List.set_cons_succ]))
        exact rfl
      have hER : ∀ wz, Chg w.heap.size 65 W3 wz → ERO w.heap.size wz #[.slice C4 r.a.length e4, .int .i64 (-1), .bool (negQ (-r.b)), .slice C5 n5 e5, .slice C6 n6 e6] (normR r) := fun wz hc => by
        rw [HNR.out]
        exact ⟨_, _, _, _, _, _, _, rfl, by (unfold I64; simp only; omega), QO.chg HQ3.out hc (by decide), HV3.out.keeps hc.1⟩
      have hset := RO.set HRO3.out (by rw [HCL.out]; exact hlt) (row_word5 (A0 := C4) rfl) hER
      have HSet := Lib.hid hset.1
      have HCg := Lib.hid hset.2
      have HFR3 := Lib.hid ((HFR.out.below F3.out).chg hset.2 (by decide))
      have HQO3 := Lib.hid (QO.chg (OL.below EFQ.stays HQO.out F3.out) hset.2 (by decide))
      have HBQ4 := Lib.hid (HBQ3.out.chg hset.2 (by decide))
      have HK3 := Lib.hid (HS.chg (HK.out.step F3.out) hset.2 (by simp) rfl ⟨rfl, rfl, rfl⟩)
      clear hset hER
      go_wp2_with fail
      refine NoPanic.normal ?_
      go_wp2_with fail
      go_roundw
      case rel => exact HRoundN.out _ HBQ4.out HSet.out HFR3.out HQO3.out HK3.out
      case measure => simp [intOf]; omega
    · obtain rfl : i = p.rows.length := by omega
      have hfin : (rq.take p.rows.length).map normR ++ rq.drop p.rows.length = (p.rows.map cleanR).map normR := by rw [← HRL.out, List.take_length, List.drop_length, List.append_nil, HRQ.out]
      rw [hfin] at HRO
      clear hfin
      obtain ⟨i0, i1, i2, i3⟩ := HBQ.out.c4
      have hltq := HBQ.out.lt
      obtain ⟨j0, j1, j2, j3⟩ := (HK.out.blk 0 rfl).c4
      obtain ⟨f0, f1, f2, f3⟩ := (HK.out.blk 0 rfl).f4
      have hlt0 := (HK.out.blk 0 rfl).lt
      go_wp2_with fail
      have hcg := chg_put4 (base := w.heap.size) (HK.out.blk 0 rfl) (by simp) prog_words (.int .i64 vars) (.slice B1 p.free.length d1) (.slice B2 p.goal.length d2) (.slice B3 p.rows.length d3)
      rw [HN.out, HRZ.out]
      exact ret26i Try.results12 rfl rfl ((HK.out.blk 0 rfl).put4 _ _ _ _) ⟨_, rfl, ⟨_, _, _, by show _ = Value.agg #[.int .i64 p.vars, _, _, _]; rw [← HV.out], HI.out, (HFR.out.chg hcg (by decide)).raise (by simp), by show QO _ _ _ (p.goal.map fixQ); rw [← HQG.out]; exact QO.chg HQO.out hcg (by decide), RO.chg HRO.out hcg (by decide) (by decide)⟩, below_put4 HK.out.2 (by simp) _ _ _ _⟩
set_option maxHeartbeats 32000000 in
set_option maxRecDepth 100000 in
theorem rnormal_calls (w : World) (v : Value) (p : ProgF) (h : PR w v p) : Calls Try.prog 13 #[v] w fun e w' => NPost w (normalR p) (rightP p) e w' := by
  have HP := Lib.hid h
  obtain ⟨A1, c1, A2, c2, A3, c3, rfl, HI, H1, H2, H3⟩ := h.opened
  clear h
  obtain ⟨vars, hv⟩ : ∃ n, n = p.vars := ⟨_, rfl⟩
  rw [← hv] at HP ⊢
  have HV := Lib.hid hv
  clear hv
  go_enter Try.func13, Try.ntmps13
  go_wp2_with fail
  have H0 := Lib.hid (HS.two (w := w) #[.int .i64 vars, .slice A1 p.free.length c1, .slice A2 p.goal.length c2, .slice A3 p.rows.length c3] #[.int .i64 0, .slice none 0 0, .slice none 0 0, .slice none 0 0] 26 26)
  have hsz0 : ((w.alloc (.cells #[.int .i64 vars, .slice A1 p.free.length c1, .slice A2 p.goal.length c2, .slice A3 p.rows.length c3] 26)).alloc (.cells #[.int .i64 0, .slice none 0 0, .slice none 0 0, .slice none 0 0] 26)).heap.size = w.heap.size + 2 := by simp
  generalize (w.alloc (.cells #[.int .i64 vars, .slice A1 p.free.length c1, .slice A2 p.goal.length c2, .slice A3 p.rows.length c3] 26)).alloc (.cells #[.int .i64 0, .slice none 0 0, .slice none 0 0, .slice none 0 0] 26) = W0 at *
  have hsz1 : w.heap.size + 2 ≤ W0.heap.size := by omega
  clear hsz0
  refine (r2right_calls W0 _ p (HP.out.of_below H0.out.2)).mono ?_
  rintro e w1 ⟨rfl, hb⟩
  have K1 := Lib.hid (H0.out.step hb)
  have hsz2 : w.heap.size + 2 ≤ w1.heap.size := by have := hb.size; omega
  obtain ⟨x0, x1, x2, x3⟩ := K1.out.c4 1 rfl
  have hlt1 := (K1.out.blk 1 rfl).lt
  clear hb hsz1
  by_cases q1 : rightP p = 0
  case neg =>
    have u1 : (rightP p != 0) = true := bneI q1
    have HN : Hid (normalR p = zeroP) := by unfold Hid normalR; rw [if_neg q1]
    obtain ⟨j0, j1, j2, j3⟩ := (K1.out.blk 0 rfl).c4
    obtain ⟨f0, f1, f2, f3⟩ := (K1.out.blk 0 rfl).f4
    have hlt0 := (K1.out.blk 0 rfl).lt
    clear q1
    go_wp2_with fail
    rw [HN.out]
    exact ret26i Try.results13 rfl rfl ((K1.out.blk 0 rfl).put4 _ _ _ _) ⟨_, rfl, PO.zero _ _, below_put4 K1.out.2 (by simp) _ _ _ _⟩
  have u1 : (rightP p != 0) = false := beqI q1
  have hrl := rightP_len q1
  have HN : Hid (normalR p = normQ (cleanQ p)) := by unfold Hid normalR; rw [if_pos q1]
  have HRZ := Lib.hid q1
  have hlf : p.free.length ≤ 1000 := by have := hrl.1; have := hrl.2.2.2.1; omega
  have hlg : p.goal.length ≤ 1000 := by have := hrl.2.1; have := hrl.2.2.2.1; omega
  have hlr : p.rows.length ≤ 1000 := by have := hrl.2.2.2.2.1; omega
  have HLA : Hid (∀ r ∈ p.rows, r.a.length ≤ 1000) := fun r hr => by have := (hrl.2.2.2.2.2 r hr).1; have := hrl.2.2.2.1; omega
  clear q1 hrl
  go_wp2_with fail
  refine (rclean_v w1 vars _ _ _ _ _ _ p HV.out (HP.out.of_below K1.out.2) hlf hlg hlr HLA.out).mono ?_
  rintro e w2 ⟨v2, v3, rfl, hq, hro, hb⟩
  rw [show (cleanQ p).vars = vars from HV.out.symm]
  have hq' : QO w.heap.size w2 v2 (p.goal.map fixQ) := hq.lower (Nat.le_trans (Nat.le_add_right _ 2) hsz2)
  have hro' : RO w.heap.size w2 v3 (p.rows.map cleanR) := RO.lower hro (Nat.le_trans (Nat.le_add_right _ 2) hsz2)
  obtain ⟨B2, d2, ev2, _⟩ := hq'.slice
  rw [List.length_map] at ev2
  subst ev2
  obtain ⟨B3, d3, ev3, _⟩ := OL.slice hro'
  rw [List.length_map] at ev3
  subst ev3
  have hfr' : FrO w.heap.size w2 (.slice A1 p.free.length c1) p.free := (FrO.old H1.out).below (K1.out.step hb).2
  have K2 := Lib.hid (K1.out.step hb)
  have hsz3 : w.heap.size + 2 ≤ w2.heap.size := by have := hb.size; omega
  obtain ⟨x0, x1, x2, x3⟩ := K2.out.c4 1 rfl
  have hlt2 := (K2.out.blk 1 rfl).lt
  clear hq hro hb  hsz2
  go_wp2_with fail
  have hbn := below_new w2 (.cells #[.int .i64 vars, .slice A1 p.free.length c1, .slice B2 p.goal.length d2, .slice B3 p.rows.length d3] 26)
  have HBc := Lib.hid (Blk.new w2 26 #[.int .i64 vars, .slice A1 p.free.length c1, .slice B2 p.goal.length d2, .slice B3 p.rows.length d3])
  have HFc := Lib.hid (hfr'.below hbn)
  have HQc := Lib.hid (OL.below EFQ.stays hq' hbn)
  have HRc := Lib.hid (OL.below ERO.stays hro' hbn)
  have HSc := Lib.hid (K2.out.step hbn)
  obtain ⟨gq, hgq⟩ : ∃ g, g = w2.heap.size := ⟨_, rfl⟩
  rw [← hgq] at HBc
  have hgq2 : w.heap.size + 2 ≤ gq := by omega
  generalize w2.alloc (.cells #[.int .i64 vars, .slice A1 p.free.length c1, .slice B2 p.goal.length d2, .slice B3 p.rows.length d3] 26) = Wc at *
  rw [← hgq]
  clear hgq hbn hfr' hq' hro' x0 x1 x2 x3 hlt2 K2 hsz3
  obtain ⟨qg, hqg⟩ : ∃ q, q = p.goal.map fixQ := ⟨_, rfl⟩
  rw [← hqg] at HQc
  have HQG := Lib.hid hqg
  obtain ⟨rq, hrq⟩ : ∃ q, q = p.rows.map cleanR := ⟨_, rfl⟩
  rw [← hrq] at HRc
  have HRQ := Lib.hid hrq
  have HRL : Hid (rq.length = p.rows.length) := by unfold Hid; rw [hrq, List.length_map]
  have HSM : Hid (∀ r ∈ rq, SmallR r ∧ r.a.length ≤ 1000) := fun r hr => ⟨(small_clean p).2 r (by rw [hrq] at hr; exact hr), by
    rw [hrq] at hr
    obtain ⟨f, hf, rfl⟩ := List.mem_map.1 hr
    unfold cleanR
    simp only [List.length_map]
    exact HLA.out f hf⟩
  clear hqg hrq
  obtain ⟨i0, i1, i2, i3⟩ := HBc.out.c4
  have hltq := HBc.out.lt
  go_wp2_with fail
  clear i0 i1 i2 i3 hltq
  go_loopw [19] (fun vi wr => ∃ i : Nat, i ≤ p.rows.length ∧ vi = .int .i64 (i : Int) ∧ Blk wr gq 26 #[.int .i64 vars, .slice A1 p.free.length c1, .slice B2 p.goal.length d2, .slice B3 p.rows.length d3] ∧ RO w.heap.size wr (.slice B3 p.rows.length d3) ((rq.take i).map normR ++ rq.drop i) ∧ FrO w.heap.size wr (.slice A1 p.free.length c1) p.free ∧ QO w.heap.size wr (.slice B2 p.goal.length d2) qg ∧ HS w [(w.heap.size + 1, 26, #[.int .i64 0, .slice none 0 0, .slice none 0 0, .slice none 0 0]), (w.heap.size, 26, #[.int .i64 vars, .slice A1 p.free.length c1, .slice A2 p.goal.length c2, .slice A3 p.rows.length c3])] wr) (fun vi _ => p.rows.length - (intOf vi).toNat)
  case atStart => exact ⟨0, Nat.zero_le _, rfl, HBc.out, HRc.out, HFc.out, HQc.out, HSc.out⟩
  case round =>
    obtain ⟨i, hi, rfl, hbq, hro, hfr, hqo, hs⟩ := hrel
    have HBQ := Lib.hid hbq
    have HRO := Lib.hid hro
    have HFR := Lib.hid hfr
    have HQO := Lib.hid hqo
    have HK := Lib.hid hs
    clear hbq hro hfr hqo hs HBc HRc HFc HQc HSc K1 H0
    by_cases hlt : i < p.rows.length
    · obtain ⟨r, hr'⟩ : ∃ r, rq[i]? = some r := ⟨rq[i]'(by rw [HRL.out]; exact hlt), List.getElem?_eq_getElem _⟩
      obtain ⟨cur, hcur⟩ : ∃ c, c = (rq.take i).map normR ++ rq.drop i := ⟨_, rfl⟩
      have hci : cur[i]? = some r := by rw [hcur]; exact norm_at hr'
      have HNX : Hid (cur.set i (normR r) = (rq.take (i + 1)).map normR ++ rq.drop (i + 1)) := by unfold Hid; rw [hcur]; exact norm_step hr'
      have hcl : cur.length = p.rows.length := by rw [hcur, ← HRL.out]; simp; omega
      have HCL := Lib.hid hcl
      have HCI := Lib.hid hci
      rw [← hcur] at HRO
      obtain ⟨g5, C1, e1, C2, n2, e2, C3, n3, e3, rfl, hg5, hg5l, k0, k1, k2, k3, k4, _, HIS, HRA, HRB⟩ := RO.at5 HRO.out hci
      have HS2 := Lib.hid (HSM.out r (List.mem_of_getElem? hr')).1
      have hra : r.a.length ≤ 1000000000 := by have := (HSM.out r (List.mem_of_getElem? hr')).2; omega
      have HRP := Lib.hid hr'
      have m1 : (i : Int) < (p.rows.length : Int) := by omega
      have m3 : (i : Int).toNat = i := by omega
      have m4 : (0 : Int) ≤ (i : Int) := by omega
      obtain ⟨s, hs⟩ : ∃ s, s = r.s := ⟨_, rfl⟩
      rw [← hs] at k1
      have HSE := Lib.hid hs
      have hltq := HBQ.out.lt
      clear hr' hs hci hcl hcur
      have HRoundN : Hid (∀ wz, Blk wz gq 26 #[.int .i64 vars, .slice A1 p.free.length c1, .slice B2 p.goal.length d2, .slice (some ⟨g5, 0, none⟩) p.rows.length d3] → RO w.heap.size wz (.slice (some ⟨g5, 0, none⟩) p.rows.length d3) (cur.set i (normR r)) → FrO w.heap.size wz (.slice A1 p.free.length c1) p.free → QO w.heap.size wz (.slice B2 p.goal.length d2) qg → HS w [(w.heap.size + 1, 26, #[.int .i64 0, .slice none 0 0, .slice none 0 0, .slice none 0 0]), (w.heap.size, 26, #[.int .i64 vars, .slice A1 p.free.length c1, .slice A2 p.goal.length c2, .slice A3 p.rows.length c3])] wz → ∃ i', i' ≤ p.rows.length ∧ Value.int .i64 ((i : Int) + 1) = .int .i64 (i' : Int) ∧ Blk wz gq 26 #[.int .i64 vars, .slice A1 p.free.length c1, .slice B2 p.goal.length d2, .slice (some ⟨g5, 0, none⟩) p.rows.length d3] ∧ RO w.heap.size wz (.slice (some ⟨g5, 0, none⟩) p.rows.length d3) ((rq.take i').map normR ++ rq.drop i') ∧ FrO w.heap.size wz (.slice A1 p.free.length c1) p.free ∧ QO w.heap.size wz (.slice B2 p.goal.length d2) qg ∧ HS w [(w.heap.size + 1, 26, #[.int .i64 0, .slice none 0 0, .slice none 0 0, .slice none 0 0]), (w.heap.size, 26, #[.int .i64 vars, .slice A1 p.free.length c1, .slice A2 p.goal.length c2, .slice A3 p.rows.length c3])] wz) := by
        intro wz h1 h2 h3 h4 h5
        rw [HNX.out] at h2
        exact ⟨i + 1, by omega, by go_num, h1, h2, h3, h4, h5⟩
      by_cases q1 : s = 1
      case neg =>
        have u1 : (s == 1) = false := bneI' q1
        have HSet : Hid (cur.set i (normR r) = cur) := by
          unfold Hid
          have : normR r = r := by unfold normR; rw [if_neg (by rw [← HSE.out]; exact q1)]
          rw [this]
          exact set_same HCI.out
        clear q1
        go_wp2_with fail
        go_roundw
        case rel =>
          have hbn := below_new wr (.cells #[.slice C1 r.a.length e1, .int .i64 s, .bool (negQ r.b), .slice C2 n2 e2, .slice C3 n3 e3] 65)
          exact HRoundN.out _ (HBQ.out.below hbn HBQ.out.lt) (by rw [HSet.out]; exact OL.below ERO.stays HRO.out hbn) (HFR.out.below hbn) (OL.below EFQ.stays HQO.out hbn) (HK.out.step hbn)
        case measure => simp [intOf]; omega
      have u1 : (s == 1) = true := beqI' q1
      have HNR : Hid (normR r = ⟨r.a.map fun q => -q, -1, -r.b⟩) := by unfold Hid normR; rw [if_pos (by rw [← HSE.out]; exact q1)]
      clear q1
      go_wp2_with fail
      have HB1 := Lib.hid (below_new wr (.cells #[.slice C1 r.a.length e1, .int .i64 s, .bool (negQ r.b), .slice C2 n2 e2, .slice C3 n3 e3] 65))
      have HKB1 := Lib.hid (Blk.new wr 65 #[.slice C1 r.a.length e1, .int .i64 s, .bool (negQ r.b), .slice C2 n2 e2, .slice C3 n3 e3])
      obtain ⟨gr, hgr⟩ : ∃ gr, gr = wr.heap.size := ⟨_, rfl⟩
      rw [← hgr] at HKB1
      generalize wr.alloc (.cells #[.slice C1 r.a.length e1, .int .i64 s, .bool (negQ r.b), .slice C2 n2 e2, .slice C3 n3 e3] 65) = W1 at *
      rw [← hgr]
      clear hgr k0 k1 k2 k3 k4
      have z0 := HKB1.out.cell (j := 0) rfl
      have z1 := HKB1.out.cell (j := 1) rfl
      have z2 := HKB1.out.cell (j := 2) rfl
      have z3 := HKB1.out.cell (j := 3) rfl
      have z4 := HKB1.out.cell (j := 4) rfl
      have hzl := HKB1.out.lt
      obtain ⟨i0, i1, i2, i3⟩ := (HBQ.out.below HB1.out HBQ.out.lt).c4
      have hltq1 := (HBQ.out.below HB1.out HBQ.out.lt).lt
      refine wp_chainF (l := [_, _, _, _, _, _, _, _, _, _, _, _]) (S := Below W1.heap.size W1) 11 [([0, 1, 2, 3, 4, 6, 7], 5), ([], 8)] [9, 10] (by kernel_rfl) (by kernel_rfl) (by kernel_rfl) rfl (Below.drew (Below.refl _ _)) ?_
      refine ⟨?_, _, ?_, rfl, ?_⟩
      rotate_left
      · repeat (refine ⟨_, ?_, rfl, Or.inl ⟨by rfl, ?_⟩, ?_⟩; rotate_left; focus (intro W hW; have hcW := (bcell hW).1; clear hW; go_simp; try with_reducible rfl); (try simp only [Act.put, List.getElem_toArray, List.getElem_cons_succ, List.getElem_cons_zero, List.setIfInBounds_toArray, List.set_cons_zero, List.set_cons_succ]))
        exact rfl
      have D0 : Hid (Below W1.heap.size W1 W1.drew) := Below.drew (Below.refl _ _)
      have F0 := Lib.hid (below_next HB1.out D0.out)
      go_wp2_with fail
      refine (rnegated_calls _ _ (r.a.map rawQ) (QO.fl (OL.below EFQ.stays HRA.out F0.out) HS2.out.1) (by rw [List.length_map]; exact hra)).mono ?_
      rintro e W2 ⟨v2, rfl, hq, hb⟩
      rw [neg_raw HS2.out.1] at hq
      have hwl : w.heap.size ≤ W1.drew.heap.size := by have := F0.out.size; have := HK.out.2.size; omega
      have hq' := QO.lower hq hwl
      obtain ⟨C4, e4, hv2, _⟩ := hq'.slice
      rw [List.length_map] at hv2
      subst hv2
      have HQ2 := Lib.hid hq'
      have D2 := Lib.hid (below_next D0.out hb)
      have F2 := Lib.hid (below_next HB1.out D2.out)
      clear hq hq' hb
      go_wp2_with fail
      refine And.intro D2.out ⟨_, _, rfl, rfl, ?_⟩
      go_wp2_with fail
      refine (rneg_calls _ _ (rawQ r.b) (FR.of_fq (HRB.out.of_below F2.out) HS2.out.2)).mono ?_
      rintro e W3 ⟨v3, rfl, hv, hb⟩
      rw [fixQ_raw _ HS2.out.2] at hv
      obtain ⟨C5, n5, e5, C6, n6, e6, rfl, HV3⟩ := hv.opened
      have HQ3 := Lib.hid (OL.below EFQ.stays HQ2.out hb)
      have D3 := Lib.hid (below_next D2.out hb)
      have F3 := Lib.hid (below_next HB1.out D3.out)
      clear hv hb
      have HRO3 := Lib.hid (OL.below ERO.stays HRO.out F3.out)
      obtain ⟨g5', G1, h1, G2, n2', h2, G3, n3', h3, ee, _, hg5l', k0, k1, k2, k3, k4, hfz, _, _, _⟩ := RO.at5 HRO3.out HCI.out
      injection ee with ee
      injection ee with ee
      subst ee
      have hf0 := hfz (i * 5)
      have hf1 := hfz (i * 5 + 1)
      have hf2 := hfz (i * 5 + 2)
      have hf3 := hfz (i * 5 + 3)
      have hf4 := hfz (i * 5 + 4)
      have HBQ3 := Lib.hid (HBQ.out.below F3.out HBQ.out.lt)
      obtain ⟨i0, i1, i2, i3⟩ := HBQ3.out.c4
      have hltq3 := HBQ3.out.lt
      clear hfz
      go_wp2_with fail
      refine And.intro D3.out ⟨?_, ?_, ?_⟩
      rotate_left
      · repeat (refine ⟨_, ?_, rfl, Or.inl ⟨by rfl, ?_⟩, ?_⟩; rotate_left; focus (intro W hW; have hcW := (bcell hW).1; clear hW; go_simp; try with_reducible rfl); (try simp only [Act.put, List.getElem_toArray, List.getElem_cons_succ, List.getElem_cons_zero, List.setIfInBounds_toArray, List.set_cons_zero, List.set_cons_succ]))
        exact rfl
      have hER : ∀ wz, Chg w.heap.size 65 W3 wz → ERO w.heap.size wz #[.slice C4 r.a.length e4, .int .i64 (-1), .bool (negQ (-r.b)), .slice C5 n5 e5, .slice C6 n6 e6] (normR r) := fun wz hc => by
        rw [HNR.out]
        exact ⟨_, _, _, _, _, _, _, rfl, by (unfold I64; simp only; omega), QO.chg HQ3.out hc (by decide), HV3.out.keeps hc.1⟩
      have hset := RO.set HRO3.out (by rw [HCL.out]; exact hlt) (row_word5 (A0 := C4) rfl) hER
      have HSet := Lib.hid hset.1
      have HCg := Lib.hid hset.2
      have HFR3 := Lib.hid ((HFR.out.below F3.out).chg hset.2 (by decide))
      have HQO3 := Lib.hid (QO.chg (OL.below EFQ.stays HQO.out F3.out) hset.2 (by decide))
      have HBQ4 := Lib.hid (HBQ3.out.chg hset.2 (by decide))
      have HK3 := Lib.hid (HS.chg (HK.out.step F3.out) hset.2 (by simp) rfl ⟨rfl, rfl, rfl⟩)
      clear hset hER
      go_wp2_with fail
      refine NoPanic.normal ?_
      go_wp2_with fail
      go_roundw
      case rel => exact HRoundN.out _ HBQ4.out HSet.out HFR3.out HQO3.out HK3.out
      case measure => simp [intOf]; omega
    · obtain rfl : i = p.rows.length := by omega
      have hfin : (rq.take p.rows.length).map normR ++ rq.drop p.rows.length = (p.rows.map cleanR).map normR := by rw [← HRL.out, List.take_length, List.drop_length, List.append_nil, HRQ.out]
      rw [hfin] at HRO
      clear hfin
      obtain ⟨i0, i1, i2, i3⟩ := HBQ.out.c4
      have hltq := HBQ.out.lt
      obtain ⟨j0, j1, j2, j3⟩ := (HK.out.blk 0 rfl).c4
      obtain ⟨f0, f1, f2, f3⟩ := (HK.out.blk 0 rfl).f4
      have hlt0 := (HK.out.blk 0 rfl).lt
      go_wp2_with fail
      have hcg := chg_put4 (base := w.heap.size) (HK.out.blk 0 rfl) (by simp) prog_words (.int .i64 vars) (.slice A1 p.free.length c1) (.slice B2 p.goal.length d2) (.slice B3 p.rows.length d3)
      rw [HN.out, HRZ.out]
      exact ret26i Try.results13 rfl rfl ((HK.out.blk 0 rfl).put4 _ _ _ _) ⟨_, rfl, ⟨_, _, _, by show _ = Value.agg #[.int .i64 p.vars, _, _, _]; rw [← HV.out], HI.out, (HFR.out.chg hcg (by decide)).raise (by simp), by show QO _ _ _ (p.goal.map fixQ); rw [← HQG.out]; exact QO.chg HQO.out hcg (by decide), RO.chg HRO.out hcg (by decide) (by decide)⟩, below_put4 HK.out.2 (by simp) _ _ _ _⟩
end Go.Proofs.Ytfhambfgjigneaa
set_option linter.unusedVariables false
set_option linter.unusedSimpArgs false
namespace Go.Proofs.Ytfhambfgjigneaa
open Go.RowKit
set_option maxHeartbeats 16000000 in
set_option maxRecDepth 100000 in
theorem fmake_calls (w : World) (n : Int) (h0 : -9223372036854775808 ≤ n) (h1 : n < 9223372036854775808) :
    Calls Try.prog 113 #[.int .i64 n, .int .i64 1] w fun e w' => ∃ v, e = .returned (.tuple #[v, .int .i64 0]) ∧ FQ w' v (n : Rat) ∧ Below w.heap.size w w' := by
  go_enter Try.func113, Try.ntmps113
  go_wp2_with fail
  have H0 := Lib.hid (HS.one (w := w) #[.bool false, .slice none 0 0, .slice none 0 0] 40)
  generalize w.alloc (.cells #[.bool false, .slice none 0 0, .slice none 0 0] 40) = W0 at *
  refine (whole_calls W0 n h0 h1).mono ?_
  rintro e w1 ⟨v, rfl, hv, hb⟩
  obtain ⟨A1, n1, c1, A2, n2, c2, rfl, HV⟩ := hv.opened'
  have H1 := Lib.hid (H0.out.step hb)
  clear hv hb
  go_wp2_with fail
  refine (whole_calls w1 1 (by omega) (by omega)).mono ?_
  rintro e w2 ⟨v, rfl, hv, hb⟩
  have hone : ((1 : Int) : Rat) = 1 := rfl
  rw [hone] at hv
  obtain ⟨A3, n3, c3, A4, n4, c4, rfl, HW⟩ := hv.opened'
  have H2 := Lib.hid (H1.out.step hb)
  have HV2 := Lib.hid (HV.out.of_below hb)
  clear hv hb hone
  go_wp2_with fail
  refine (over_calls w2 _ 1 HW.out (by decide)).mono ?_
  rintro e w3 ⟨v, rfl, hv, hb⟩
  rw [rat_inv_one] at hv
  obtain ⟨A5, n5, c5, A6, n6, c6, rfl, HW3⟩ := hv.opened'
  have H3 := Lib.hid (H2.out.step hb)
  have HV3 := Lib.hid (HV2.out.of_below hb)
  clear hv hb
  go_wp2_with fail
  have hs := size_int n h0 h1
  refine (times_calls w3 _ _ (n : Rat) 1 HV3.out HW3.out (by omega) (by have := size_int 1 (by omega) (by omega); have e : ((1 : Int) : Rat) = 1 := rfl; rw [e] at this; omega)).mono ?_
  rintro e w4 ⟨v, rfl, hv, hb⟩
  rw [Rat.mul_one] at hv
  obtain ⟨A7, n7, c7, A8, n8, c8, rfl, HV4⟩ := hv.opened'
  have H4 := Lib.hid (H3.out.step hb)
  clear hv hb
  go_wp2_with fail
  refine (told_calls w4 _ (n : Rat) HV4.out (by omega)).mono ?_
  rintro e w5 ⟨v, rfl, hv, hb⟩
  rw [capQ_fits (show sizeQ (n : Rat) ≤ 4096 by omega)] at hv
  obtain ⟨A9, n9, c9, A10, n10, c10, rfl, HV5⟩ := hv.opened
  have H5 := Lib.hid (H4.out.step hb)
  clear hv hb hs
  obtain ⟨f0, f1, f2⟩ := (H5.out.blk 0 rfl).f3
  obtain ⟨x0, x1, x2⟩ := (H5.out.blk 0 rfl).c3
  go_wp2_with fail
  refine ret40i Try.results113 rfl rfl ((H5.out.blk 0 rfl).put3 _ _ _) ⟨_, rfl, HV5.out.put3 (H5.out.blk 0 rfl) ni40 _ _ _, below_put3 H5.out.2 (by omega) _ _ _⟩
set_option maxHeartbeats 16000000 in
set_option maxRecDepth 100000 in
theorem number_calls (w : World) (n : Int) (h0 : -9223372036854775808 ≤ n) (h1 : n < 9223372036854775808) : Calls Try.prog 80 #[.int .i64 n] w fun e w' => FPost w (n : Rat) e w' := by
  go_enter Try.func80, Try.ntmps80
  go_wp2_with fail
  have H0 := Lib.hid (HS.one (w := w) #[.bool false, .slice none 0 0, .slice none 0 0] 40)
  generalize w.alloc (.cells #[.bool false, .slice none 0 0, .slice none 0 0] 40) = W0 at *
  refine (fmake_calls W0 n h0 h1).mono ?_
  rintro e w1 ⟨v, rfl, hv, hb⟩
  obtain ⟨A1, n1, c1, A2, n2, c2, rfl, HV⟩ := FQ.opened hv
  have H1 := Lib.hid (H0.out.step hb)
  clear hv hb
  obtain ⟨f0, f1, f2⟩ := (H1.out.blk 0 rfl).f3
  obtain ⟨x0, x1, x2⟩ := (H1.out.blk 0 rfl).c3
  have hlt := (H1.out.blk 0 rfl).lt
  go_wp2_with fail
  exact ret40 Try.results80 rfl (((H1.out.blk 0 rfl).put3 _ _ _).alloc _) ⟨_, rfl, (HV.out.put3 (H1.out.blk 0 rfl) ni40 _ _ _).of_below (below_new _ _), below_next (below_put3 H1.out.2 (Nat.le_refl _) _ _ _) (below_new _ _)⟩
end Go.Proofs.Ytfhambfgjigneaa
set_option linter.unusedVariables false
set_option linter.unusedSimpArgs false
namespace Go.Proofs.Ytfhambfgjigneaa
open Go.RowKit
def EI (w : World) (vs : Array Value) (n : Int) : Prop := vs = #[.int .i64 n]
theorem EI.stays : Stays EI := fun _ _ _ _ h _ => h
abbrev IL (w : World) (v : Value) (l : List Int) : Prop := SL 1 EI w v l
theorem IL.at1 {w : World} {A : Option Addr} {n c : Nat} {l : List Int} (h : IL w (.slice A n c) l) {j : Nat} {b : Int} (hj : l[j]? = some b) : ∃ g o, A = some ⟨g, o, none⟩ ∧ g < w.heap.size ∧ w.cell? ⟨g, o + j, none⟩ = some (.int .i64 b) := by
  obtain ⟨g, o, vs, hA, hg, hs, hc, he⟩ := h.at_ hj
  subst he
  have := hc 0 _ rfl
  rw [Nat.mul_one] at this
  exact ⟨g, o, hA, hg, this⟩
def hasB (l : List Int) (n : Int) : Bool := l.any fun x => decide (x = n)
set_option maxHeartbeats 16000000 in
set_option maxRecDepth 100000 in
theorem has_calls (w : World) (v : Value) (l : List Int) (n : Int) (h : IL w v l) (hl : l.length ≤ 9223372036854775807) : Calls Try.prog 48 #[v, .int .i64 n] w fun e w' => BPost w (hasB l n) e w' := by
  obtain ⟨A, c, rfl, hc⟩ := h.slice
  have HF := Lib.hid h
  clear h
  go_enter Try.func48, Try.ntmps48
  go_wp2_with fail
  go_loopw [9] (fun vi wr => ∃ i : Nat, i ≤ l.length ∧ vi = .int .i64 (i : Int) ∧ (∀ (j : Nat) (x : Int), j < i → l[j]? = some x → x ≠ n) ∧ Below w.heap.size w wr) (fun vi _ => l.length - (intOf vi).toNat)
  case atStart => exact ⟨0, Nat.zero_le _, rfl, fun j _ h => absurd h (Nat.not_lt_zero _), Below.refl _ _⟩
  case round =>
    obtain ⟨i, hi, rfl, hall, hb⟩ := hrel
    have HA := Lib.hid hall
    have HB := Lib.hid hb
    clear hall hb
    by_cases hlt : i < l.length
    · obtain ⟨x, hx⟩ : ∃ x, l[i]? = some x := ⟨l[i], List.getElem?_eq_getElem hlt⟩
      obtain ⟨g, o, rfl, hg, k0⟩ := IL.at1 (HF.out.below EI.stays HB.out) hx
      have HX := Lib.hid hx
      clear hx
      have m1 : (i : Int) < (l.length : Int) := by omega
      have m3 : (i : Int).toNat = i := by omega
      have m4 : (0 : Int) ≤ (i : Int) := by omega
      by_cases q1 : x = n
      · have u1 : (x == n) = true := beqI' q1
        have HE2 : Hid (hasB l n = true) := by
          unfold Hid hasB
          rw [List.any_eq_true]
          exact ⟨x, List.mem_of_getElem? HX.out, decide_eq_true q1⟩
        clear q1
        go_wp2_with fail
        go_ret
        exact ⟨by rw [HE2.out]; rfl, HB.out⟩
      · have u1 : (x == n) = false := bneI' q1
        have HQ := Lib.hid q1
        clear q1
        go_wp2_with fail
        go_roundw
        case rel =>
          refine ⟨i + 1, by omega, by go_num, fun j y hj hy => ?_, HB.out⟩
          by_cases hji : j = i
          · rw [hji, HX.out] at hy
            injection hy with e
            rw [← e]
            exact HQ.out
          · exact HA.out j y (by omega) hy
        case measure => simp [intOf]; omega
    · obtain rfl : i = l.length := by omega
      have HE2 : Hid (hasB l n = false) := by
        unfold Hid hasB
        rw [List.any_eq_false]
        intro x hx
        obtain ⟨j, hj⟩ := List.getElem?_of_mem hx
        simpa using HA.out j x (List.getElem?_eq_some_iff.1 hj).1 hj
      go_wp2_with fail
      go_ret
      exact ⟨by rw [HE2.out]; rfl, HB.out⟩
end Go.Proofs.Ytfhambfgjigneaa
set_option linter.unusedVariables false
set_option linter.unusedSimpArgs false
namespace Go.Proofs.Ytfhambfgjigneaa
open Go.RowKit
open Go.ChangeShapes Go.WideShapes Go.Deep
section
variable {H : Type} {enc : TypeId × Value → H} {w : World} {base b0 : Nat} {spare : Nat → Bool} {held : Bool} {fuel : Nat} {cs : List Value} {x : DataW H × List MemPlace} {r : Reach} {v : Value} {d : DataW H} {p : List MemPlace}
theorem open27 (h : DataW.trod enc Try.prog w base spare held fuel 27 cs = some x) : ∃ v ns, cs = [v] ∧ IL w v ns ∧ ns.length ≤ 9223372036854775807 ∧ ∀ n ∈ ns, I64 n := by
  obtain ⟨v, ns, hv, hs, hl⟩ := open_sl (α := Int) (E := fun w vs n => I64 n ∧ vs = #[.int .i64 n]) (k := 1) Try.underlying27 (by kernel_rfl) (by decide) (fun n cs' y hy hlen => by
    obtain ⟨z, e, hw⟩ := open3 hy
    exact ⟨z, hw, by rw [e]⟩) h
  refine ⟨v, ns, hv, ?_, ml_le hl, ?_⟩
  · obtain ⟨A, c, e, hc, hr⟩ := hs
    refine ⟨A, c, e, hc, fun hp => ?_⟩
    obtain ⟨g, o, hA, hg, he⟩ := hr hp
    refine ⟨g, o, hA, hg, fun j n hj => ?_⟩
    obtain ⟨vs, h1, h2, h3⟩ := he j n hj
    exact ⟨vs, h1, h2, h3.2⟩
  · intro n hn
    obtain ⟨A, c, e, hc, hr⟩ := hs
    obtain ⟨j, hj⟩ := List.getElem?_of_mem hn
    obtain ⟨g, o, _, _, he⟩ := hr (by have := (List.getElem?_eq_some_iff.1 hj).1; omega)
    obtain ⟨vs, _, _, h3⟩ := he j n hj
    exact h3.1
set_option maxRecDepth 100000 in
theorem arg27 (hv : Value.okWide Try.prog w r b0 27 v) (h : DataW.Trod enc Try.prog w base spare held 27 v d p) : ∃ ns, IL w v ns ∧ ns.length ≤ 9223372036854775807 ∧ ∀ n ∈ ns, I64 n := by
  obtain ⟨A, n, c, rfl⟩ := okWide_slice Try.underlying27 hv
  obtain ⟨fuel, hf⟩ := h
  obtain ⟨v', fs, e, h1, h2, h3⟩ := open27 hf
  have e' : [Value.slice A n c] = [v'] := e
  obtain rfl : Value.slice A n c = v' := (List.cons.inj e').1
  exact ⟨fs, h1, h2, h3⟩
end
end Go.Proofs.Ytfhambfgjigneaa
set_option linter.unusedVariables false
set_option linter.unusedSimpArgs false
namespace Go.Proofs.Ytfhambfgjigneaa
open Go.RowKit
theorem cmp0_calls (w : World) (v v2 : Value) (f g : RawF) (h : FR w v f) (h2 : FR w v2 g) (he : fixQ f = fixQ g) : Calls Try.prog 22 #[v, v2] w fun e w' => IPost w 0 e w' := by
  have := rcmp_calls w v v2 f g h h2
  rw [he, show ordQ (fixQ g) (fixQ g) = 0 from by unfold ordQ; rw [if_pos rfl]] at this
  exact this
theorem right1_calls (w : World) (v : Value) (f : RawF) (h : FR w v f) (hr : RightF f) : Calls Try.prog 86 #[v] w fun e w' => BPost w true e w' := by
  have := right_calls w v f h
  rw [rightB_true hr] at this
  exact this
/-- Two lists that are the same numbers, those of the first right. -/
def SameL (a b : List RawF) : Prop := a.length = b.length ∧ ∀ (i : Nat) (f g : RawF), a[i]? = some f → b[i]? = some g → fixQ f = fixQ g ∧ RightF f
set_option maxHeartbeats 16000000 in
set_option maxRecDepth 100000 in
theorem sameList_calls (w : World) (v v2 : Value) (a b : List RawF) (h : FL w v a) (h2 : FL w v2 b) (hl : a.length ≤ 1000000) (hs : SameL a b) : Calls Try.prog 50 #[v, v2] w fun e w' => BPost w true e w' := by
  obtain ⟨A1, c1, rfl, _⟩ := h.slice
  obtain ⟨A2, c2, rfl, _⟩ := h2.slice
  have HA := Lib.hid h
  have HB := Lib.hid h2
  have HS := Lib.hid hs
  have hlen := hs.1
  clear h h2 hs
  go_enter Try.func50, Try.ntmps50
  have u1 : ((a.length : Int) != (b.length : Int)) = false := beqI (by omega)
  rw [← hlen] at HB ⊢
  have u1' : ((a.length : Int) != (a.length : Int)) = false := beqI rfl
  have HLEN := Lib.hid hlen
  clear hlen u1
  go_wp2_with fail
  go_loopw [14] (fun vi wr => ∃ i : Nat, i ≤ a.length ∧ vi = .int .i64 (i : Int) ∧ Below w.heap.size w wr) (fun vi _ => a.length - (intOf vi).toNat)
  case atStart => exact ⟨0, Nat.zero_le _, rfl, Below.refl _ _⟩
  case round =>
    obtain ⟨i, hi, rfl, hb⟩ := hrel
    have HK := Lib.hid hb
    clear hb
    by_cases hlt : i < a.length
    · obtain ⟨f, hf⟩ : ∃ x, a[i]? = some x := ⟨a[i], List.getElem?_eq_getElem hlt⟩
      obtain ⟨g, hg⟩ : ∃ x, b[i]? = some x := ⟨b[i]'(by have := HLEN.out; omega), List.getElem?_eq_getElem _⟩
      have HSM := Lib.hid (HS.out.2 i f g hf hg)
      obtain ⟨g1, o1, B1, n1, d1, B2, n2, d2, rfl, hg1, k0, k1, k2, HFE⟩ := FL.at3 (HA.out.below EF.stays HK.out) hf
      obtain ⟨g2, o2, B3, n3, d3, B4, n4, d4, rfl, hg2, j0, j1, j2, HGE⟩ := FL.at3 (HB.out.below EF.stays HK.out) hg
      have m1 : (i : Int) < (a.length : Int) := by omega
      have m3 : (i : Int).toNat = i := by omega
      have m4 : (0 : Int) ≤ (i : Int) := by omega
      clear hf hg
      go_wp2_with fail
      have HB1 := Lib.hid (below_new wr (.cells #[.bool f.neg, .slice B1 n1 d1, .slice B2 n2 d2] 40))
      have HKB1 := Lib.hid (Blk.new wr 40 #[.bool f.neg, .slice B1 n1 d1, .slice B2 n2 d2])
      obtain ⟨gr, hgr⟩ : ∃ gr, gr = wr.heap.size := ⟨_, rfl⟩
      rw [← hgr] at HKB1
      have j0' := ((bcell HB1.out).1 g2 _ hg2).trans j0
      have j1' := ((bcell HB1.out).1 g2 _ hg2).trans j1
      have j2' := ((bcell HB1.out).1 g2 _ hg2).trans j2
      have hg2' : g2 < (wr.alloc (.cells #[.bool f.neg, .slice B1 n1 d1, .slice B2 n2 d2] 40)).heap.size := Nat.lt_of_lt_of_le hg2 HB1.out.size
      generalize wr.alloc (.cells #[.bool f.neg, .slice B1 n1 d1, .slice B2 n2 d2] 40) = W1 at *
      rw [← hgr]
      clear hgr k0 k1 k2 j0 j1 j2
      obtain ⟨z0, z1, z2⟩ := HKB1.out.c3
      have hzl := HKB1.out.lt
      have HFE1 := Lib.hid (HFE.out.of_below HB1.out)
      have HGE1 := Lib.hid (HGE.out.of_below HB1.out)
      refine wp_chainS (S := Below W1.heap.size W1) [([0, 1, 2, 3, 4], 5), ([6, 7, 8], 9)] [10, 11] (by kernel_rfl) (by kernel_rfl) (by kernel_rfl) rfl (Below.drew (Below.refl _ _)) ?_
      refine ⟨?_, _, ?_, rfl, ?_⟩
      rotate_left
      · ((refine ⟨_, ?_, rfl, Or.inl ⟨by rfl, ?_⟩, ?_⟩; rotate_left; focus (intro W hW; have hcW := (bcell hW).1; clear hW; go_simp; try with_reducible rfl)); (try simp only [Act.put, List.getElem_toArray, List.getElem_cons_succ, List.getElem_cons_zero, List.setIfInBounds_toArray, List.set_cons_zero, List.set_cons_succ])); ((refine ⟨_, ?_, rfl, Or.inl ⟨by rfl, ?_⟩, ?_⟩; rotate_left; focus (intro W hW; have hcW := (bcell hW).1; clear hW; go_simp; try with_reducible rfl)); (try simp only [Act.put, List.getElem_toArray, List.getElem_cons_succ, List.getElem_cons_zero, List.setIfInBounds_toArray, List.set_cons_zero, List.set_cons_succ])); ((refine ⟨_, ?_, rfl, Or.inl ⟨by rfl, ?_⟩, ?_⟩; rotate_left; focus (intro W hW; have hcW := (bcell hW).1; clear hW; go_simp; try with_reducible rfl)); (try simp only [Act.put, List.getElem_toArray, List.getElem_cons_succ, List.getElem_cons_zero, List.setIfInBounds_toArray, List.set_cons_zero, List.set_cons_succ])); ((refine ⟨_, ?_, rfl, Or.inl ⟨by rfl, ?_⟩, ?_⟩; rotate_left; focus (intro W hW; have hcW := (bcell hW).1; clear hW; go_simp; try with_reducible rfl)); (try simp only [Act.put, List.getElem_toArray, List.getElem_cons_succ, List.getElem_cons_zero, List.setIfInBounds_toArray, List.set_cons_zero, List.set_cons_succ])); ((refine ⟨_, ?_, rfl, Or.inl ⟨by rfl, ?_⟩, ?_⟩; rotate_left; focus (intro W hW; have hcW := (bcell hW).1; clear hW; go_simp; try with_reducible rfl)); (try simp only [Act.put, List.getElem_toArray, List.getElem_cons_succ, List.getElem_cons_zero, List.setIfInBounds_toArray, List.set_cons_zero, List.set_cons_succ]))
        exact rfl
      have D0 : Hid (Below W1.heap.size W1 W1.drew) := Below.drew (Below.refl _ _)
      go_wp2_with fail
      refine (cmp0_calls _ _ _ f g (HFE1.out.of_below D0.out) (HGE1.out.of_below D0.out) HSM.out.1).mono ?_
      rintro e w2 ⟨rfl, hb⟩
      have D2 := Lib.hid (below_next D0.out hb)
      clear hb
      go_wp2_with fail
      refine And.intro D2.out ⟨?_, _, ?_, rfl, ?_⟩
      rotate_left
      · ((refine ⟨_, ?_, rfl, Or.inl ⟨by rfl, ?_⟩, ?_⟩; rotate_left; focus (intro W hW; have hcW := (bcell hW).1; clear hW; go_simp; try with_reducible rfl)); (try simp only [Act.put, List.getElem_toArray, List.getElem_cons_succ, List.getElem_cons_zero, List.setIfInBounds_toArray, List.set_cons_zero, List.set_cons_succ])); ((refine ⟨_, ?_, rfl, Or.inl ⟨by rfl, ?_⟩, ?_⟩; rotate_left; focus (intro W hW; have hcW := (bcell hW).1; clear hW; go_simp; try with_reducible rfl)); (try simp only [Act.put, List.getElem_toArray, List.getElem_cons_succ, List.getElem_cons_zero, List.setIfInBounds_toArray, List.set_cons_zero, List.set_cons_succ])); ((refine ⟨_, ?_, rfl, Or.inl ⟨by rfl, ?_⟩, ?_⟩; rotate_left; focus (intro W hW; have hcW := (bcell hW).1; clear hW; go_simp; try with_reducible rfl)); (try simp only [Act.put, List.getElem_toArray, List.getElem_cons_succ, List.getElem_cons_zero, List.setIfInBounds_toArray, List.set_cons_zero, List.set_cons_succ]))
        exact rfl
      go_wp2_with fail
      refine (right1_calls _ _ f (HFE1.out.of_below D2.out) HSM.out.2).mono ?_
      rintro e w3 ⟨rfl, hb⟩
      have D3 := Lib.hid (below_next D2.out hb)
      clear hb
      go_wp2_with fail
      refine And.intro D3.out ⟨?_, ?_, ?_⟩
      rotate_left
      · ((refine ⟨_, ?_, rfl, Or.inl ⟨by rfl, ?_⟩, ?_⟩; rotate_left; focus (intro W hW; have hcW := (bcell hW).1; clear hW; go_simp; try with_reducible rfl)); (try simp only [Act.put, List.getElem_toArray, List.getElem_cons_succ, List.getElem_cons_zero, List.setIfInBounds_toArray, List.set_cons_zero, List.set_cons_succ])); ((refine ⟨_, ?_, rfl, Or.inl ⟨by rfl, ?_⟩, ?_⟩; rotate_left; focus (intro W hW; have hcW := (bcell hW).1; clear hW; go_simp; try with_reducible rfl)); (try simp only [Act.put, List.getElem_toArray, List.getElem_cons_succ, List.getElem_cons_zero, List.setIfInBounds_toArray, List.set_cons_zero, List.set_cons_succ]))
        exact rfl
      refine NoPanic.normal ?_
      go_wp2_with fail
      go_roundw
      case rel => exact ⟨i + 1, by omega, by go_num, below_next HK.out (below_next HB1.out D3.out)⟩
      case measure => simp [intOf]; omega
    · obtain rfl : i = a.length := by omega
      go_wp2_with fail
      go_ret
      exact ⟨rfl, HK.out⟩
end Go.Proofs.Ytfhambfgjigneaa
set_option linter.unusedVariables false
set_option linter.unusedSimpArgs false
namespace Go.Proofs.Ytfhambfgjigneaa
open Go.RowKit
def UPost (w : World) (r : RowQ) (e : Ending) (w' : World) : Prop := ∃ vs, e = .returned (.agg vs) ∧ ERO w.heap.size w' vs r ∧ Below w.heap.size w w'
def unitL (n : Nat) (v : Int) : List Rat := (List.range n).map fun (i : Nat) => if (i : Int) = v then (1 : Rat) else 0
def unitQ (n : Nat) (v s b : Int) : RowQ := ⟨unitL n v, s, b⟩
theorem unitL_length (n : Nat) (v : Int) : (unitL n v).length = n := by simp [unitL]
theorem unitL_next (n : Nat) (v : Int) : unitL (n + 1) v = unitL n v ++ [if (n : Int) = v then 1 else 0] := by
  simp [unitL, List.range_succ]
theorem Blk.c5 {W : World} {g t : Nat} {a b c d e : Value} (h : Blk W g t #[a, b, c, d, e]) : W.cell? ⟨g, 0, none⟩ = some a ∧ W.cell? ⟨g, 1, none⟩ = some b ∧ W.cell? ⟨g, 2, none⟩ = some c ∧ W.cell? ⟨g, 3, none⟩ = some d ∧ W.cell? ⟨g, 4, none⟩ = some e := ⟨h.cell rfl, h.cell rfl, h.cell rfl, h.cell rfl, h.cell rfl⟩
theorem Blk.f5 {W : World} {g t : Nat} {cs : Array Value} (h : Blk W g t cs) : W.frozen? ⟨g, 0, none⟩ = false ∧ W.frozen? ⟨g, 1, none⟩ = false ∧ W.frozen? ⟨g, 2, none⟩ = false ∧ W.frozen? ⟨g, 3, none⟩ = false ∧ W.frozen? ⟨g, 4, none⟩ = false := ⟨h.frozen 0, h.frozen 1, h.frozen 2, h.frozen 3, h.frozen 4⟩
theorem Blk.put5 {w : World} {g t : Nat} {a b c d e : Value} (h : Blk w g t #[a, b, c, d, e]) (x y z u v : Value) : Blk (_root_.Go.Proofs.Ytfhambfgjigneaa.put5 w g 0 x y z u v) g t #[x, y, z, u, v] :=
  ((((h.put 0 x).put 1 y).put 2 z).put 3 u).put 4 v
theorem below_put5 {B : Nat} {w w1 : World} (h : Below B w w1) {g : Nat} (ha : B ≤ g) (x y z u v : Value) : Below B w (put5 w1 g 0 x y z u v) :=
  Below.setCell (below_put4 h ha x y z u) (p := ⟨g, 4, none⟩) ha v
theorem chg_put5 {base g t : Nat} {w : World} {cs : Array Value} (h : Blk w g t cs) (hg : base ≤ g) (hn : ∀ u ∈ cs, notWord u = true) (x y z u v : Value) : Chg base t w (put5 w g 0 x y z u v) := by
  have ho : ∀ k, k < w.heap.size → k ≠ g → (put5 w g 0 x y z u v).heap[k]? = w.heap[k]? := fun k _ hk => put5_other w g 0 x y z u v hk
  exact Chg.own h hg (Keeps.apart h hn (Nat.le_of_eq (put5_size w g 0 x y z u v).symm) ho) ho
theorem rowA_words {s : Int} {b : Bool} {A0 A1 A2 : Option Addr} {n0 c0 n1 c1 n2 c2 : Nat} : ∀ u ∈ #[Value.slice A0 n0 c0, .int .i64 s, .bool b, .slice A1 n1 c1, .slice A2 n2 c2], notWord u = true := by
  intro u hu
  simp only [List.mem_toArray, List.mem_cons, List.not_mem_nil, or_false] at hu
  rcases hu with rfl | rfl | rfl | rfl | rfl <;> rfl
theorem ret65 {fn : Func} {p : Tmp} {Post : Ending → World → Prop} {tmps : Array Value} {w : World} {g : Nat} {a b c d e : Value} (hres : fn.results = #[.cell p 65]) (hp : tmps.getD p undef = .pointer (some ⟨g, 0, none⟩)) (hb : Blk w g 65 #[a, b, c, d, e])
    (hP : Post (.returned (.agg #[a, b, c, d, e])) w) : bodyPost Try.prog fn Post Exit.ret { tmps := tmps, defers := [] } w :=
  bodyPost_ret (v := .agg #[a, b, c, d, e]) (results_cell_row hres _ _ g 65 #[a, b, c, d, e] (0, 0) _ hp hb Try.underlying65 rfl info65s) rfl hP
set_option maxHeartbeats 16000000 in
set_option maxRecDepth 100000 in
theorem runit_calls (w : World) (n : Nat) (v s b : Int) (hn : n ≤ 1000000) (hs : I64 s) (h0 : -9223372036854775808 ≤ b) (h1 : b < 9223372036854775808) : Calls Try.prog 49 #[.int .i64 (n : Int), .int .i64 v, .int .i64 s, .int .i64 b] w fun e w' => UPost w (unitQ n v s b) e w' := by
  have HS1 := Lib.hid hs
  clear hs
  go_enter Try.func49, Try.ntmps49
  go_wp2_with fail
  have H0 := Lib.hid (HS.one (w := w) #[.slice none 0 0, .int .i64 0, .bool false, .slice none 0 0, .slice none 0 0] 65)
  have hsz0 : (w.alloc (.cells #[.slice none 0 0, .int .i64 0, .bool false, .slice none 0 0, .slice none 0 0] 65)).heap.size = w.heap.size + 1 := by simp
  generalize w.alloc (.cells #[.slice none 0 0, .int .i64 0, .bool false, .slice none 0 0, .slice none 0 0] 65) = W0 at *
  refine (rwhole_calls W0 b h0 h1).mono ?_
  rintro e w1 ⟨u, rfl, hv, hb⟩
  obtain ⟨A1, n1, c1, A2, n2, c2, rfl, HV⟩ := FQ.opened hv
  have H1 := Lib.hid (H0.out.step hb)
  have hsz1 : w.heap.size + 1 ≤ w1.heap.size := by have := hb.size; omega
  clear hv hb hsz0
  go_wp2_with fail
  have H2 := Lib.hid (H1.out.step (below_new w1 (.cells #[.slice none 0 0, .int .i64 s, .bool (negQ (b : Rat)), .slice A1 n1 c1, .slice A2 n2 c2] 65)))
  have HBQ0 := Lib.hid (Blk.new w1 65 #[.slice none 0 0, .int .i64 s, .bool (negQ (b : Rat)), .slice A1 n1 c1, .slice A2 n2 c2])
  have HV2 := Lib.hid (HV.out.of_below (below_new w1 (.cells #[.slice none 0 0, .int .i64 s, .bool (negQ (b : Rat)), .slice A1 n1 c1, .slice A2 n2 c2] 65)))
  obtain ⟨gq, hgq⟩ : ∃ g, g = w1.heap.size := ⟨_, rfl⟩
  rw [← hgq] at HBQ0 hsz1
  generalize w1.alloc (.cells #[.slice none 0 0, .int .i64 s, .bool (negQ (b : Rat)), .slice A1 n1 c1, .slice A2 n2 c2] 65) = W2 at *
  rw [← hgq]
  clear hgq H1 H0 HV
  go_loopw [10] (fun vi wr => ∃ i : Nat, i ≤ n ∧ vi = .int .i64 (i : Int) ∧ (∃ A5 c5, Blk wr gq 65 #[.slice A5 i c5, .int .i64 s, .bool (negQ (b : Rat)), .slice A1 n1 c1, .slice A2 n2 c2] ∧ QO w.heap.size wr (.slice A5 i c5) (unitL i v)) ∧ FQ wr (.agg #[.bool (negQ (b : Rat)), .slice A1 n1 c1, .slice A2 n2 c2]) (b : Rat) ∧ HS w [(w.heap.size, 65, #[.slice none 0 0, .int .i64 0, .bool false, .slice none 0 0, .slice none 0 0])] wr) (fun vi _ => n - (intOf vi).toNat)
  case atStart => exact ⟨0, Nat.zero_le _, rfl, ⟨none, 0, HBQ0.out, OL.nil _ _ _ _ _⟩, HV2.out, H2.out⟩
  case round =>
    obtain ⟨i, hi, rfl, ⟨A5, c5, hbq, hq⟩, hvb, hs⟩ := hrel
    have HBQ := Lib.hid hbq
    have HQ := Lib.hid hq
    have HVB := Lib.hid hvb
    have HK := Lib.hid hs
    clear hbq hq hvb hs HBQ0 HV2 H2
    obtain ⟨i0, i1, i2, i3, i4⟩ := HBQ.out.c5
    have hltq := HBQ.out.lt
    by_cases hlt : i < n
    · have HNX := Lib.hid (unitL_next i v)
      have hul : (unitL i v).length ≤ 1000000000 := by rw [unitL_length]; omega
      have m1 : (i : Int) < (n : Int) := by omega
      by_cases hiv : (i : Int) = v
      · have u1 : (((i : Int) == v)) = true := by simp [hiv]
        rw [if_pos hiv] at HNX
        clear hiv
        go_wp2_with fail
        refine wp_chainF (l := [_, _, _, _, _, _, _, _]) (S := Below wr.heap.size wr) 5 [([0, 1, 2], 3), ([], 4)] [] (by kernel_rfl) (by kernel_rfl) (by kernel_rfl) rfl (Below.drew (Below.refl _ _)) ?_
        refine ⟨?_, _, ?_, rfl, ?_⟩
        rotate_left
        · repeat (refine ⟨_, ?_, rfl, Or.inl ⟨by rfl, ?_⟩, ?_⟩; rotate_left; focus (intro W hW; have hcW := (bcell hW).1; clear hW; go_simp; try with_reducible rfl); (try simp only [Act.put, List.getElem_toArray, List.getElem_cons_succ, List.getElem_cons_zero, List.setIfInBounds_toArray, List.set_cons_zero, List.set_cons_succ]))
          exact rfl
        have D0 : Hid (Below wr.heap.size wr wr.drew) := Below.drew (Below.refl _ _)
        go_wp2_with fail
        refine (rwhole_calls _ 1 (by decide) (by decide)).mono ?_
        rintro e W3 ⟨u, rfl, hv, hb⟩
        have hcast : ((1 : Int) : Rat) = (1 : Rat) := by norm_cast
        rw [hcast] at hv
        obtain ⟨B1, m1, d1, B2, m2, d2, rfl, HV3⟩ := FQ.opened hv
        have D3 := Lib.hid (below_next D0.out hb)
        clear hv hb hcast
        go_wp2_with fail
        refine And.intro D3.out ⟨_, _, rfl, rfl, ?_⟩
        go_wp2_with fail
        have hbn := below_new W3 (.cells #[.bool (negQ (1 : Rat)), .slice B1 m1 d1, .slice B2 m2 d2] 40)
        have D4 := Lib.hid (below_next D3.out hbn)
        have HL4 := Lib.hid (Blk.new W3 40 #[.bool (negQ (1 : Rat)), .slice B1 m1 d1, .slice B2 m2 d2])
        have HV4 := Lib.hid (HV3.out.of_below hbn)
        obtain ⟨gl, hgl⟩ : ∃ g, g = W3.heap.size := ⟨_, rfl⟩
        rw [← hgl] at HL4 ⊢
        generalize W3.alloc (.cells #[.bool (negQ (1 : Rat)), .slice B1 m1 d1, .slice B2 m2 d2] 40) = W4 at *
        clear hgl hbn
        refine And.intro D4.out ⟨_, rfl, ?_⟩
        have HBQ4 := Lib.hid (HBQ.out.below D4.out HBQ.out.lt)
        have HQ4 := Lib.hid (HQ.out.below EFQ.stays D4.out)
        have HVB4 := Lib.hid (HVB.out.of_below D4.out)
        have HK4 := Lib.hid (HK.out.step D4.out)
        have hbase4 : w.heap.size ≤ W4.heap.size := HK4.out.2.size
        simp only [Act.put, List.getElem_toArray, List.getElem_cons_succ, List.getElem_cons_zero, List.setIfInBounds_toArray, List.set_cons_zero, List.set_cons_succ, List.drop_succ_cons, List.drop_zero]
        clear i0 i1 i2 i3 i4
        go_wp2_with (at_builtin; refine wpl_appendQ rfl (.tmp 25) (.tmp 28) rfl (base := w.heap.size) (.slice A5 i c5) (unitL i v) rfl HQ4.out (1 : Rat) rfl HL4.out HV4.out hul hbase4 ?_; intro v6 W6 hq6 hg6 hk6 hb6; have hcg6 : Chg w.heap.size 40 W4 W6 := (by obtain ⟨xs, ho, _⟩ := HQ4.out; exact ho.changes hg6 hk6); have hw6 : W4.os = W6.os ∧ W4.tape = W6.tape ∧ W4.output = W6.output := ⟨hg6.os.symm, hg6.tape.symm, hg6.output.symm⟩; rw [← HNX.out] at hq6; obtain ⟨A6, c6, hv6, _⟩ := hq6.slice; rw [unitL_length] at hv6; subst hv6; have HQ6 := Lib.hid hq6; have HBQ6 := Lib.hid (HBQ4.out.chg hcg6 (by decide)); have HVB6 := Lib.hid (FQ.keeps HVB4.out hk6); have HK6 := Lib.hid (HS.chg HK4.out hcg6 (by simp) rfl hw6); obtain ⟨i0, i1, i2, i3, i4⟩ := HBQ6.out.c5; obtain ⟨f0, f1, f2, f3, f4⟩ := HBQ6.out.f5; have hltq6 := HBQ6.out.lt; clear hq6 hcg6 hw6 hb6 hg6 hk6)
        refine NoPanic.normal ?_
        have hcp := chg_put1 (base := w.heap.size) (j := 0) HBQ6.out (by omega) rowA_words (.slice A6 (i + 1) c6)
        have HX1 := Lib.hid (HBQ6.out.put 0 (.slice A6 (i + 1) c6))
        have HX2 := Lib.hid (QO.chg HQ6.out hcp (by decide))
        have HX3 := Lib.hid (FQ.keeps HVB6.out hcp.1)
        have HX5 := Lib.hid (HK6.out.other1 (g := gq) (by omega) (by simp; omega) 0 (.slice A6 (i + 1) c6))
        clear hcp
        go_wp2_with fail
        go_roundw
        case rel => exact ⟨i + 1, by omega, by go_num, ⟨A6, c6, HX1.out, HX2.out⟩, HX3.out, HX5.out⟩
        case measure => simp [intOf]; omega
      · have u1 : (((i : Int) == v)) = false := by simp [hiv]
        rw [if_neg hiv] at HNX
        clear hiv
        go_wp2_with fail
        refine wp_chainF (l := [_, _, _, _, _, _, _, _]) (S := Below wr.heap.size wr) 5 [([0, 1, 2], 3), ([], 4)] [] (by kernel_rfl) (by kernel_rfl) (by kernel_rfl) rfl (Below.drew (Below.refl _ _)) ?_
        refine ⟨?_, _, ?_, rfl, ?_⟩
        rotate_left
        · repeat (refine ⟨_, ?_, rfl, Or.inl ⟨by rfl, ?_⟩, ?_⟩; rotate_left; focus (intro W hW; have hcW := (bcell hW).1; clear hW; go_simp; try with_reducible rfl); (try simp only [Act.put, List.getElem_toArray, List.getElem_cons_succ, List.getElem_cons_zero, List.setIfInBounds_toArray, List.set_cons_zero, List.set_cons_succ]))
          exact rfl
        have D0 : Hid (Below wr.heap.size wr wr.drew) := Below.drew (Below.refl _ _)
        go_wp2_with fail
        refine (rwhole_calls _ 0 (by decide) (by decide)).mono ?_
        rintro e W3 ⟨u, rfl, hv, hb⟩
        have hcast : ((0 : Int) : Rat) = (0 : Rat) := by norm_cast
        rw [hcast] at hv
        obtain ⟨B1, m1, d1, B2, m2, d2, rfl, HV3⟩ := FQ.opened hv
        have D3 := Lib.hid (below_next D0.out hb)
        clear hv hb hcast
        go_wp2_with fail
        refine And.intro D3.out ⟨_, _, rfl, rfl, ?_⟩
        go_wp2_with fail
        have hbn := below_new W3 (.cells #[.bool (negQ (0 : Rat)), .slice B1 m1 d1, .slice B2 m2 d2] 40)
        have D4 := Lib.hid (below_next D3.out hbn)
        have HL4 := Lib.hid (Blk.new W3 40 #[.bool (negQ (0 : Rat)), .slice B1 m1 d1, .slice B2 m2 d2])
        have HV4 := Lib.hid (HV3.out.of_below hbn)
        obtain ⟨gl, hgl⟩ : ∃ g, g = W3.heap.size := ⟨_, rfl⟩
        rw [← hgl] at HL4 ⊢
        generalize W3.alloc (.cells #[.bool (negQ (0 : Rat)), .slice B1 m1 d1, .slice B2 m2 d2] 40) = W4 at *
        clear hgl hbn
        refine And.intro D4.out ⟨_, rfl, ?_⟩
        have HBQ4 := Lib.hid (HBQ.out.below D4.out HBQ.out.lt)
        have HQ4 := Lib.hid (HQ.out.below EFQ.stays D4.out)
        have HVB4 := Lib.hid (HVB.out.of_below D4.out)
        have HK4 := Lib.hid (HK.out.step D4.out)
        have hbase4 : w.heap.size ≤ W4.heap.size := HK4.out.2.size
        simp only [Act.put, List.getElem_toArray, List.getElem_cons_succ, List.getElem_cons_zero, List.setIfInBounds_toArray, List.set_cons_zero, List.set_cons_succ, List.drop_succ_cons, List.drop_zero]
        clear i0 i1 i2 i3 i4
        go_wp2_with (at_builtin; refine wpl_appendQ rfl (.tmp 25) (.tmp 28) rfl (base := w.heap.size) (.slice A5 i c5) (unitL i v) rfl HQ4.out (0 : Rat) rfl HL4.out HV4.out hul hbase4 ?_; intro v6 W6 hq6 hg6 hk6 hb6; have hcg6 : Chg w.heap.size 40 W4 W6 := (by obtain ⟨xs, ho, _⟩ := HQ4.out; exact ho.changes hg6 hk6); have hw6 : W4.os = W6.os ∧ W4.tape = W6.tape ∧ W4.output = W6.output := ⟨hg6.os.symm, hg6.tape.symm, hg6.output.symm⟩; rw [← HNX.out] at hq6; obtain ⟨A6, c6, hv6, _⟩ := hq6.slice; rw [unitL_length] at hv6; subst hv6; have HQ6 := Lib.hid hq6; have HBQ6 := Lib.hid (HBQ4.out.chg hcg6 (by decide)); have HVB6 := Lib.hid (FQ.keeps HVB4.out hk6); have HK6 := Lib.hid (HS.chg HK4.out hcg6 (by simp) rfl hw6); obtain ⟨i0, i1, i2, i3, i4⟩ := HBQ6.out.c5; obtain ⟨f0, f1, f2, f3, f4⟩ := HBQ6.out.f5; have hltq6 := HBQ6.out.lt; clear hq6 hcg6 hw6 hb6 hg6 hk6)
        refine NoPanic.normal ?_
        have hcp := chg_put1 (base := w.heap.size) (j := 0) HBQ6.out (by omega) rowA_words (.slice A6 (i + 1) c6)
        have HX1 := Lib.hid (HBQ6.out.put 0 (.slice A6 (i + 1) c6))
        have HX2 := Lib.hid (QO.chg HQ6.out hcp (by decide))
        have HX3 := Lib.hid (FQ.keeps HVB6.out hcp.1)
        have HX5 := Lib.hid (HK6.out.other1 (g := gq) (by omega) (by simp; omega) 0 (.slice A6 (i + 1) c6))
        clear hcp
        go_wp2_with fail
        go_roundw
        case rel => exact ⟨i + 1, by omega, by go_num, ⟨A6, c6, HX1.out, HX2.out⟩, HX3.out, HX5.out⟩
        case measure => simp [intOf]; omega
    · obtain rfl : i = n := by omega
      obtain ⟨j0, j1, j2, j3, j4⟩ := (HK.out.blk 0 rfl).c5
      obtain ⟨f0, f1, f2, f3, f4⟩ := (HK.out.blk 0 rfl).f5
      have hlt0 := (HK.out.blk 0 rfl).lt
      go_wp2_with fail
      have hcg := chg_put5 (base := w.heap.size) (HK.out.blk 0 rfl) (by simp) rowA_words (.slice A5 i c5) (.int .i64 s) (.bool (negQ (b : Rat))) (.slice A1 n1 c1) (.slice A2 n2 c2)
      exact ret65 Try.results49 rfl ((HK.out.blk 0 rfl).put5 _ _ _ _ _) ⟨_, rfl, ⟨_, _, _, _, _, _, _, rfl, HS1.out, QO.chg HQ.out hcg (by decide), FQ.keeps HVB.out hcg.1⟩, below_put5 HK.out.2 (by simp) _ _ _ _ _⟩
end Go.Proofs.Ytfhambfgjigneaa
set_option linter.unusedVariables false
set_option linter.unusedSimpArgs false
namespace Go.Proofs.Ytfhambfgjigneaa
open Go.RowKit
def seenB (l : List Int) (i : Nat) (x : Int) : Bool := (l.take i).any fun y => decide (y = x)
def distinctB (n : Int) (l : List Int) : Bool := decide ((∀ x ∈ l, 0 ≤ x ∧ x < n) ∧ l.Nodup)
theorem seenB_next {l : List Int} {i : Nat} {x : Int} (h : l[i]? = some x) (y : Int) : seenB l (i + 1) y = (seenB l i y || decide (x = y)) := by
  unfold seenB
  rw [List.take_add_one, h]
  simp
theorem nodup_take {l : List Int} (h : ∀ (i : Nat) (x : Int), l[i]? = some x → seenB l i x = false) : l.Nodup := by
  rw [List.nodup_iff_pairwise_ne, List.pairwise_iff_getElem]
  intro i j hi hj hij e
  have := h j l[j] (List.getElem?_eq_getElem hj)
  unfold seenB at this
  rw [List.any_eq_false] at this
  refine this l[i] ?_ (decide_eq_true e)
  rw [List.mem_take_iff_getElem]
  exact ⟨i, by omega, rfl⟩
theorem not_nodup {l : List Int} {i : Nat} {x : Int} (h : l[i]? = some x) (hs : seenB l i x = true) : ¬ l.Nodup := by
  intro hn
  rw [List.nodup_iff_pairwise_ne, List.pairwise_iff_getElem] at hn
  unfold seenB at hs
  rw [List.any_eq_true] at hs
  obtain ⟨y, hy, e⟩ := hs
  obtain ⟨hlt, ex⟩ := List.getElem?_eq_some_iff.1 h
  obtain ⟨j, hj, ey⟩ := List.mem_take_iff_getElem.1 hy
  have hj' : j < i := by omega
  refine hn j i (by omega) hlt hj' ?_
  rw [ey, ex]
  exact of_decide_eq_true e
def boolElem : Value → Option (DataW Nat × List MemPlace)
  | .bool b => some (.lit (.bool b), [])
  | _ => none
theorem boolElem_inv {v : Value} {d : DataW Nat} {ps : List MemPlace} (h : boolElem v = some (d, ps)) : ∃ b, v = .bool b ∧ d = .lit (.bool b) := by
  cases v <;> simp [boolElem] at h
  exact ⟨_, rfl, h.1.symm⟩
theorem law3k : Go.Maps.Keyed Try.prog 3 := Go.Maps.int_keyed Try.underlying3
theorem zero4 (w : World) : (zeroValue 4).run Try.prog w = .ok (.bool false) w := by kernel_rfl
theorem key3 {n : Int} (h : I64 n) : keyOf Try.prog 3 (.int .i64 n) = some (.int .i64 n) := Go.Maps.keyOf_int_mk Try.underlying3 (by unfold I64 at h; simp only [Lit.wf, Bool.and_eq_true, decide_eq_true_eq]; exact h)
/-- The set of the first i numbers of l, in a map[int]bool of the call's own. -/
def Seen (w : World) (b : Nat) (l : List Int) (i : Nat) : Prop := ∃ D : DataW Nat, w.ownsMap Try.prog 3 boolElem b i D ∧ Go.Maps.IsMap D ∧ ∀ x : Int, D.atKey (.int .i64 x) (.lit (.bool false)) = .lit (.bool (seenB l i x))
set_option maxRecDepth 100000 in
theorem Seen.look {w : World} {b i : Nat} {l : List Int} (h : Seen w b l i) {x : Int} (hx : I64 x) : (Instr.lookup 101 (.map (some b)) (.int .i64 x) false).run Try.prog w = .ok (.bool (seenB l i x)) w := by
  obtain ⟨D, hown, _, hat⟩ := h
  obtain ⟨v, ps, hrun, hv⟩ := hown.lookup law3k Try.underlying101 (zero4 w) (zd := .lit (.bool false)) (zp := []) rfl (key3 hx)
  rw [hat] at hv
  obtain ⟨b, rfl, e⟩ := boolElem_inv hv
  injection e with e
  injection e with e
  rw [hrun, e]
set_option maxRecDepth 100000 in
theorem Seen.next {w : World} {b i : Nat} {l : List Int} (h : Seen w b l i) {x : Int} (hx : I64 x) (hl : l[i]? = some x) (hi : i < maxLen) : ∃ w', (Instr.mapUpdate 101 (.map (some b)) (.int .i64 x) (.bool true)).run Try.prog w = .ok () w' ∧ Seen w' b l (i + 1) ∧ w.grownBy w' (some b) := by
  obtain ⟨D, hown, hm, hat⟩ := h
  obtain ⟨w', hrun, hown', hg⟩ := hown.update law3k Try.underlying101 hi (val := .bool true) (d := .lit (.bool true)) (ps := []) (key3 hx) rfl
  refine ⟨w', hrun, ⟨_, hown', hm.put _ _, fun y => ?_⟩, hg⟩
  rw [seenB_next hl]
  by_cases e : x = y
  · subst e
    rw [Go.Maps.atKey_put_same hm (by simp [WideAt.IsKeyLit])]
    simp
  · rw [Go.Maps.atKey_put_other (by intro h; injection h with _ h; exact e h.symm), hat]
    simp [e]
theorem Seen.made (w : World) (l : List Int) : Seen (w.alloc (.map #[] 0)) w.heap.size l 0 := ⟨_, World.ownsMap_made _ _ _ _, Go.Maps.isMap_empty, fun x => rfl⟩
set_option maxHeartbeats 16000000 in
set_option maxRecDepth 100000 in
theorem distinct_calls (w : World) (v : Value) (l : List Int) (n : Int) (h : IL w v l) (hl : l.length ≤ 4000000000000000) (hw : ∀ x ∈ l, I64 x) : Calls Try.prog 46 #[.int .i64 n, v] w fun e w' => BPost w (distinctB n l) e w' := by
  obtain ⟨A, c, rfl, hc⟩ := h.slice
  have HF := Lib.hid h
  have HW := Lib.hid hw
  clear h hw
  have hmm := @run_makeMap Try.prog
  go_enter Try.func46, Try.ntmps46
  go_wp2_with fail
  go_loopw [11] (fun vi wr => ∃ i : Nat, i ≤ l.length ∧ vi = .int .i64 (i : Int) ∧ Seen wr w.heap.size l i ∧ (∀ (j : Nat) (x : Int), j < i → l[j]? = some x → (0 ≤ x ∧ x < n) ∧ seenB l j x = false) ∧ Below w.heap.size w wr) (fun vi _ => l.length - (intOf vi).toNat)
  case atStart => exact ⟨0, Nat.zero_le _, rfl, Seen.made w l, fun j _ h => absurd h (Nat.not_lt_zero _), below_new _ _⟩
  case round =>
    obtain ⟨i, hi, rfl, hsn, hall, hb⟩ := hrel
    have HS0 := Lib.hid hsn
    have HA := Lib.hid hall
    have HB := Lib.hid hb
    clear hsn hall hb hmm
    by_cases hlt : i < l.length
    · obtain ⟨x, hx⟩ : ∃ x, l[i]? = some x := ⟨l[i], List.getElem?_eq_getElem hlt⟩
      obtain ⟨g, o, rfl, hg, k0⟩ := IL.at1 (HF.out.below EI.stays HB.out) hx
      have HX := Lib.hid hx
      have hxi := HW.out x (List.mem_of_getElem? hx)
      have HXI := Lib.hid hxi
      have hlook := HS0.out.look hxi
      obtain ⟨w2, hupd, hs2, hg2⟩ := HS0.out.next hxi hx (by unfold maxLen; omega)
      have HS2 := Lib.hid hs2
      have HB2 := Lib.hid (below_none HB.out hg2 (fun k hk => by cases hk; exact Nat.le_refl _))
      clear hx hxi hs2 hg2
      have m1 : (i : Int) < (l.length : Int) := by omega
      have m3 : (i : Int).toNat = i := by omega
      have m4 : (0 : Int) ≤ (i : Int) := by omega
      by_cases q1 : x < 0
      · have HE2 : Hid (distinctB n l = false) := by
          unfold Hid distinctB
          exact decide_eq_false fun hh => by have := (hh.1 x (List.mem_of_getElem? HX.out)).1; omega
        go_wp2_with fail
        go_ret
        exact ⟨by rw [HE2.out]; rfl, HB.out⟩
      · by_cases q2 : n ≤ x
        · have HE2 : Hid (distinctB n l = false) := by
            unfold Hid distinctB
            exact decide_eq_false fun hh => by have := (hh.1 x (List.mem_of_getElem? HX.out)).2; omega
          go_wp2_with fail
          go_ret
          exact ⟨by rw [HE2.out]; rfl, HB.out⟩
        · cases hsb : seenB l i x
          · have HSB := Lib.hid hsb
            rw [hsb] at hlook
            clear hsb
            go_wp2_with fail
            go_roundw
            case rel =>
              refine ⟨i + 1, by omega, by go_num, HS2.out, fun j y hj hy => ?_, HB2.out⟩
              by_cases hji : j = i
              · rw [hji, HX.out] at hy
                injection hy with e
                rw [← e, hji]
                exact ⟨⟨by omega, by omega⟩, HSB.out⟩
              · exact HA.out j y (by omega) hy
            case measure => simp [intOf]; omega
          · rw [hsb] at hlook
            have HE2 : Hid (distinctB n l = false) := by
              unfold Hid distinctB
              exact decide_eq_false fun hh => not_nodup HX.out hsb hh.2
            clear hsb
            go_wp2_with fail
            go_ret
            exact ⟨by rw [HE2.out]; rfl, HB.out⟩
    · obtain rfl : i = l.length := by omega
      have HE2 : Hid (distinctB n l = true) := by
        unfold Hid distinctB
        refine decide_eq_true ⟨fun x hx => ?_, nodup_take fun i x hx => ?_⟩
        · obtain ⟨j, hj⟩ := List.getElem?_of_mem hx
          exact (HA.out j x (List.getElem?_eq_some_iff.1 hj).1 hj).1
        · exact (HA.out i x (List.getElem?_eq_some_iff.1 hx).1 hx).2
      go_wp2_with fail
      go_ret
      exact ⟨by rw [HE2.out]; rfl, HB.out⟩
end Go.Proofs.Ytfhambfgjigneaa
set_option linter.unusedVariables false
namespace Go.Proofs.Ytfhambfgjigneaa
open Go
/-- An order that is drawn, with places at which two operations are ready. -/
inductive CU where
  | fin (p0 : List Nat)
  | one (p : List Nat) (c : Nat) (t : CU)
  | two (p : List Nat) (c1 : Nat) (t1 : CU) (c2 : Nat) (t2 : CU)
  | three (p : List Nat) (c1 : Nat) (t1 : CU) (c2 : Nat) (t2 : CU) (c3 : Nat) (t3 : CU)
section
variable {P : Program} {ops : Array Oper} {Q : Exit → Act → World → Prop} {md : Region.Mode} {S : World → Prop} {L : Nat}
def CU.len : CU → Nat
  | .fin p0 => p0.length
  | .one p _ t => p.length + 1 + t.len
  | .two p _ t1 _ _ => p.length + 1 + t1.len
  | .three p _ t1 _ _ _ _ => p.length + 1 + t1.len
def forkF (P : Program) (ops : Array Oper) (Q : Exit → Act → World → Prop) (S : World → Prop) (os : List Oper) : CU → Act → World → Prop
  | .fin p0, a, w => ∃ A, pureTo P ops S p0 a A ∧ wpList P ops Q os A w
  | .one p c t, a, w => ∃ A o, pureTo P ops S p a A ∧ ops[c]? = some o ∧ wpList P ops (chainQ Q fun a' w' => S w' ∧ forkF P ops Q S os t a' w') [o] A w
  | .two p c1 t1 c2 t2, a, w => ∃ A o1 o2, pureTo P ops S p a A ∧ ops[c1]? = some o1 ∧ ops[c2]? = some o2 ∧ wpList P ops (chainQ Q fun a' w' => S w' ∧ forkF P ops Q S os t1 a' w') [o1] A w ∧ wpList P ops (chainQ Q fun a' w' => S w' ∧ forkF P ops Q S os t2 a' w') [o2] A w
  | .three p c1 t1 c2 t2 c3 t3, a, w => ∃ A o1 o2 o3, pureTo P ops S p a A ∧ ops[c1]? = some o1 ∧ ops[c2]? = some o2 ∧ ops[c3]? = some o3 ∧ wpList P ops (chainQ Q fun a' w' => S w' ∧ forkF P ops Q S os t1 a' w') [o1] A w ∧ wpList P ops (chainQ Q fun a' w' => S w' ∧ forkF P ops Q S os t2 a' w') [o2] A w ∧ wpList P ops (chainQ Q fun a' w' => S w' ∧ forkF P ops Q S os t3 a' w') [o3] A w
def forkOk (md : Region.Mode) (ops : Array Oper) (L : Nat) : CU → Array Bool → Bool
  | .fin p0, listed => takesF md ops L p0 listed && freeF md ops (ops.size - L) L (marked p0 listed)
  | .one p c t, listed => takesF md ops L p listed && (Region.ready md ops (marked p listed) == [c]) && forkOk md ops L t ((marked p listed).setIfInBounds c true)
  | .two p c1 t1 c2 t2, listed => takesF md ops L p listed && (Region.ready md ops (marked p listed) == [c1, c2]) && forkOk md ops L t1 ((marked p listed).setIfInBounds c1 true) && forkOk md ops L t2 ((marked p listed).setIfInBounds c2 true) && (t1.len == t2.len)
  | .three p c1 t1 c2 t2 c3 t3, listed => takesF md ops L p listed && (Region.ready md ops (marked p listed) == [c1, c2, c3]) && forkOk md ops L t1 ((marked p listed).setIfInBounds c1 true) && forkOk md ops L t2 ((marked p listed).setIfInBounds c2 true) && forkOk md ops L t3 ((marked p listed).setIfInBounds c3 true) && (t1.len == t2.len) && (t1.len == t3.len)
theorem wpAnyF_two4 {c1 c2 : Nat} {fuel : Nat} {listed : Array Bool} {a : Act} {w : World} (hr : Region.ready md ops listed = [c1, c2])
    (h1 : wpOp P ops Q c1 (fun a' w' => (c1 < L → S w') ∧ wpAnyF P md ops Q S L fuel (listed.setIfInBounds c1 true) a' w') a w)
    (h2 : wpOp P ops Q c2 (fun a' w' => (c2 < L → S w') ∧ wpAnyF P md ops Q S L fuel (listed.setIfInBounds c2 true) a' w') a w) : wpAnyF P md ops Q S L (fuel + 1) listed a w :=
  ⟨fun h0 => (by rw [hr] at h0; cases h0), fun i hi => by
    rw [hr] at hi
    simp at hi
    rcases hi with rfl | rfl
    · exact h1
    · exact h2⟩
theorem wpAnyF_three {c1 c2 c3 : Nat} {fuel : Nat} {listed : Array Bool} {a : Act} {w : World} (hr : Region.ready md ops listed = [c1, c2, c3])
    (h1 : wpOp P ops Q c1 (fun a' w' => (c1 < L → S w') ∧ wpAnyF P md ops Q S L fuel (listed.setIfInBounds c1 true) a' w') a w)
    (h2 : wpOp P ops Q c2 (fun a' w' => (c2 < L → S w') ∧ wpAnyF P md ops Q S L fuel (listed.setIfInBounds c2 true) a' w') a w)
    (h3 : wpOp P ops Q c3 (fun a' w' => (c3 < L → S w') ∧ wpAnyF P md ops Q S L fuel (listed.setIfInBounds c3 true) a' w') a w) : wpAnyF P md ops Q S L (fuel + 1) listed a w :=
  ⟨fun h0 => (by rw [hr] at h0; cases h0), fun i hi => by
    rw [hr] at hi
    simp at hi
    rcases hi with rfl | rfl | rfl
    · exact h1
    · exact h2
    · exact h3⟩
theorem fork_sound (hsel : ∀ (j : Nat) (o : Oper) cs b, ops[j]? = some o → o.op ≠ .select cs b) (hQ : ∀ c a d v w, Q (.panic c) (Act.put a d v) w → Q (.panic c) a w) (os : List Oper) (hos : os = ops.toList.drop L) :
    ∀ (t : CU) (listed : Array Bool) (a : Act) (w : World), forkOk md ops L t listed = true → Closed md ops listed → forkF P ops Q S os t a w → S w → ∀ more, wpAnyF P md ops Q S L (t.len + (ops.size - L) + more) listed a w
  | .fin p0, listed, a, w, hc, hcl, ⟨A, hp, h⟩, hS, more => by
    simp only [forkOk, Bool.and_eq_true] at hc
    rw [show (CU.fin p0).len + (ops.size - L) + more = p0.length + (ops.size - L + more) by simp only [CU.len]; omega]
    refine takesF_sound hsel hQ p0 listed a A w _ hc.1 hcl hp hS (fun _ => freeF_sound _ L os _ A w (Nat.le_refl _) hc.2 (by rw [hos]; simp) (fun j => ?_) h more)
    left
    rw [hos, List.getElem?_drop]
    simp
  | .one p c t, listed, a, w, hc, hcl, ⟨A, o, hp, ho, h⟩, hS, more => by
    simp only [forkOk, Bool.and_eq_true, beq_iff_eq] at hc
    obtain ⟨⟨ht, hr⟩, he⟩ := hc
    rw [show (CU.one p c t).len + (ops.size - L) + more = p.length + (t.len + (ops.size - L) + more + 1) by simp only [CU.len]; omega]
    refine takesF_sound hsel hQ p listed a A w _ ht hcl hp hS (fun hcl' => wpAnyF_only hr (wpOp_mono (fun a' w' hk => ⟨fun _ => hk.1, ?_⟩) (wpOp_of_chain ho h)))
    exact fork_sound hsel hQ os hos t _ a' w' he (hcl'.step (by rw [hr]; simp)) hk.2 hk.1 more
  | .two p c1 t1 c2 t2, listed, a, w, hc, hcl, ⟨A, o1, o2, hp, ho1, ho2, h1, h2⟩, hS, more => by
    simp only [forkOk, Bool.and_eq_true, beq_iff_eq] at hc
    obtain ⟨⟨⟨⟨ht, hr⟩, he1⟩, he2⟩, hl⟩ := hc
    rw [show (CU.two p c1 t1 c2 t2).len + (ops.size - L) + more = p.length + (t1.len + (ops.size - L) + more + 1) by simp only [CU.len]; omega]
    refine takesF_sound hsel hQ p listed a A w _ ht hcl hp hS (fun hcl' => wpAnyF_two4 hr (wpOp_mono (fun a' w' hk => ⟨fun _ => hk.1, ?_⟩) (wpOp_of_chain ho1 h1)) (wpOp_mono (fun a' w' hk => ⟨fun _ => hk.1, ?_⟩) (wpOp_of_chain ho2 h2)))
    · exact fork_sound hsel hQ os hos t1 _ a' w' he1 (hcl'.step (by rw [hr]; simp)) hk.2 hk.1 more
    · rw [hl]
      exact fork_sound hsel hQ os hos t2 _ a' w' he2 (hcl'.step (by rw [hr]; simp)) hk.2 hk.1 more
  | .three p c1 t1 c2 t2 c3 t3, listed, a, w, hc, hcl, ⟨A, o1, o2, o3, hp, ho1, ho2, ho3, h1, h2, h3⟩, hS, more => by
    simp only [forkOk, Bool.and_eq_true, beq_iff_eq] at hc
    obtain ⟨⟨⟨⟨⟨⟨ht, hr⟩, he1⟩, he2⟩, he3⟩, hl⟩, hl3⟩ := hc
    rw [show (CU.three p c1 t1 c2 t2 c3 t3).len + (ops.size - L) + more = p.length + (t1.len + (ops.size - L) + more + 1) by simp only [CU.len]; omega]
    refine takesF_sound hsel hQ p listed a A w _ ht hcl hp hS (fun hcl' => wpAnyF_three hr (wpOp_mono (fun a' w' hk => ⟨fun _ => hk.1, ?_⟩) (wpOp_of_chain ho1 h1)) (wpOp_mono (fun a' w' hk => ⟨fun _ => hk.1, ?_⟩) (wpOp_of_chain ho2 h2)) (wpOp_mono (fun a' w' hk => ⟨fun _ => hk.1, ?_⟩) (wpOp_of_chain ho3 h3)))
    · exact fork_sound hsel hQ os hos t1 _ a' w' he1 (hcl'.step (by rw [hr]; simp)) hk.2 hk.1 more
    · rw [hl]
      exact fork_sound hsel hQ os hos t2 _ a' w' he2 (hcl'.step (by rw [hr]; simp)) hk.2 hk.1 more
    · rw [hl3]
      exact fork_sound hsel hQ os hos t3 _ a' w' he3 (hcl'.step (by rw [hr]; simp)) hk.2 hk.1 more
theorem wp_fork {id : Nat} {a : Act} {w : World} {l : List Oper} (S : World → Prop) (L : Nat) (t : CU) (hm : P.follows .mixedOrders = true) (hs : Region.noSelect l.toArray = true) (hc : forkOk .any l.toArray L t (Array.replicate l.toArray.size false) = true)
    (hlen : t.len + (l.toArray.size - L) = l.toArray.size) (hS : S w.drew) (h : forkF P l.toArray (NoPanic Q) S (l.drop L) t a w.drew) : (Code.region id l.toArray true).wp P Q a w := by
  have := fork_sound (md := .any) (L := L) (Region.noSelect_spec hs) (fun _ _ _ _ _ h => h) (l.drop L) (by simp) t (Array.replicate l.toArray.size false) a w.drew hc (Closed.start _) h hS 0
  rw [Nat.add_zero, hlen] at this
  exact wp_region_noPanic (wp_region_any hm (wpAny_of_F _ _ _ _ this))
end
end Go.Proofs.Ytfhambfgjigneaa

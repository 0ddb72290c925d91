/- Hand-written contracts of the Go functions that the statement reaches, and the plain laws over them. -/
import Derived.Test.YtjhmdijmnnobhaaDoorProg
import Derived.Below
import Derived.Deep.Draws
import Derived.Deep.AppendLies
import Derived.Deep.AppendSrc
import Derived.Deep.Upon
import Derived.Maps.AppendAt
import Derived.OwnWalk
import Derived.Laws.BytesArg
import Derived.Laws.MakeOwn
import Derived.Laws.OwnMore
import Derived.Deep.OwnRows
import Derived.Tactics
import Derived.Lib.ConvBytes
import Derived.Lib.Hide
import Derived.Laws.Slices
import Derived.WalkKit
import Derived.KernelRfl
import Derived.RowKit3
import Derived.Deep.LoopGhost
import Derived.Deep.QuietTactic
import Derived.BigQuiet
import Derived.WideLaws
import Derived.Deep.DeepCutAuto
import Derived.Deep.CutBlock
import Derived.Laws.Rows
import Derived.Lib.AppendStr
import Derived.ArgAppend
import Derived.Laws.IdiomCopy
import Derived.Laws.IdiomStrings
import Derived.Laws.BitsLemmas
import Derived.RowKit
import Derived.Outline
import Derived.StillTailTactics
set_option linter.unusedVariables false
set_option linter.unusedSimpArgs false
namespace Go.Proofs.YtjhmdijmnnobhaaDoor
open Go.RowKit
def nums (k : IntKind) (xs : List Int) : List Value := xs.map fun x => .int k x
theorem nums_length (k : IntKind) (xs : List Int) : (nums k xs).length = xs.length := by simp [nums]
theorem nums_append (k : IntKind) (xs ys : List Int) : nums k (xs ++ ys) = nums k xs ++ nums k ys := by simp [nums]
theorem grown_of_below {w w1 : World} (h : Below w.heap.size w w1) (row : Option Nat) : w.grownBy w1 row := ⟨h.os, h.tape, h.output, h.size, fun i hi _ => h.block i hi⟩
theorem below_of_gb {B : Nat} {w w1 : World} {row : Option Nat} (h : w.grownBy w1 row) (hB : B ≤ w.heap.size) (hr : ∀ k, row = some k → B ≤ k) : Below B w w1 :=
  ⟨h.os, h.tape, h.output, h.size, fun k hk => h.block k (by omega) (fun e => by have := hr k e.symm; omega)⟩
/-- Block B holds these numbers of kind k; the block's type is e. -/
def Arr (k : IntKind) (w : World) (B e : Nat) (ws : List Int) : Prop := w.heap[B]? = some (.cells (nums k ws).toArray e (0, 0))
theorem Arr.lt {k : IntKind} {w : World} {B e : Nat} {ws : List Int} (h : Arr k w B e ws) : B < w.heap.size := (Array.getElem?_eq_some_iff.1 h).1
theorem Arr.cell {k : IntKind} {w : World} {B e : Nat} {ws : List Int} (h : Arr k w B e ws) (i : Nat) (hi : i < ws.length) : w.cell? ⟨B, i, none⟩ = some (.int k (ws.getD i 0)) := by
  simp only [World.cell?]
  rw [show w.heap[B]? = some (.cells (nums k ws).toArray e (0, 0)) from h]
  simp [nums, List.getElem?_eq_getElem hi, List.getD_eq_getElem?_getD]
theorem Arr.frozen {k : IntKind} {w : World} {B e : Nat} {ws : List Int} (h : Arr k w B e ws) (i : Nat) : w.frozen? ⟨B, i, none⟩ = false := by
  simp only [World.frozen?]
  rw [show w.heap[B]? = some (.cells (nums k ws).toArray e (0, 0)) from h]
  simp
theorem Arr.set {k : IntKind} {w : World} {B e : Nat} {ws : List Int} (h : Arr k w B e ws) (i : Nat) (v : Int) : Arr k (w.setCell ⟨B, i, none⟩ (.int k v)) B e (ws.set i v) := by
  show (w.setCell ⟨B, i, none⟩ (.int k v)).heap[B]? = _
  simp only [World.setCell, Array.getElem?_modify, if_true]
  rw [show w.heap[B]? = some (.cells (nums k ws).toArray e (0, 0)) from h]
  simp [nums, List.map_set]
theorem Arr.other {k : IntKind} {w : World} {B e : Nat} {ws : List Int} (h : Arr k w B e ws) {a : Addr} (ha : B ≠ a.block) (u : Value) : Arr k (w.setCell a u) B e ws :=
  (Below.heap_setCell w a u B ha).trans h
theorem Arr.drew {k : IntKind} {w : World} {B e : Nat} {ws : List Int} (h : Arr k w B e ws) : Arr k w.drew B e ws := h
theorem Arr.drewN {k : IntKind} {w : World} {B e : Nat} {ws : List Int} (h : Arr k w B e ws) (n : Nat) : Arr k (w.drewN n) B e ws := h
theorem Arr.alloc {k : IntKind} {w : World} {B e : Nat} {ws : List Int} (h : Arr k w B e ws) (o : Obj) : Arr k (w.alloc o) B e ws :=
  (Below.heap_alloc w o B h.lt).trans h
theorem Arr.grown {k : IntKind} {w w1 : World} {B e : Nat} {ws : List Int} (h : Arr k w B e ws) {row : Option Nat} (hg : w.grownBy w1 row) (hr : some B ≠ row) : Arr k w1 B e ws :=
  (hg.block B h.lt hr).trans h
theorem Arr.below {k : IntKind} {w w1 : World} {B e N : Nat} {ws : List Int} (h : Arr k w B e ws) (hb : Below N w w1) (hr : B < N) : Arr k w1 B e ws :=
  (hb.block B hr).trans h
theorem gb_refl (w : World) (row : Option Nat) : w.grownBy w row := ⟨rfl, rfl, rfl, Nat.le_refl _, fun _ _ _ => rfl⟩
theorem gb_drew {w w1 : World} {row : Option Nat} (h : w.grownBy w1 row) : w.grownBy w1.drew row := ⟨h.os, h.tape, h.output, h.size, h.block⟩
theorem gb_drewN {w w1 : World} {row : Option Nat} (h : w.grownBy w1 row) (n : Nat) : w.grownBy (w1.drewN n) row := ⟨h.os, h.tape, h.output, h.size, h.block⟩
theorem gb_alloc {w w1 : World} {row : Option Nat} (h : w.grownBy w1 row) (o : Obj) : w.grownBy (w1.alloc o) row :=
  ⟨h.os, h.tape, h.output, by have := h.size; simp; omega, fun k hk hr => (Below.heap_alloc w1 o k (by have := h.size; omega)).trans (h.block k hk hr)⟩
theorem gb_set {w w1 : World} {row : Option Nat} (h : w.grownBy w1 row) {a : Addr} (ha : w.heap.size ≤ a.block ∨ some a.block = row) (u : Value) : w.grownBy (w1.setCell a u) row :=
  ⟨h.os, h.tape, h.output, by have := h.size; simp [World.setCell]; omega, fun k hk hr => (Below.heap_setCell w1 a u k (by
    rintro rfl
    rcases ha with ha | ha
    · omega
    · exact hr ha)).trans (h.block k hk hr)⟩
theorem gb_trans {w w1 w2 : World} {row : Option Nat} (h : w.grownBy w1 row) (h2 : w1.grownBy w2 row) : w.grownBy w2 row :=
  ⟨h2.os.trans h.os, h2.tape.trans h.tape, h2.output.trans h.output, Nat.le_trans h.size h2.size, fun k hk hr => (h2.block k (by have := h.size; omega) hr).trans (h.block k hk hr)⟩
theorem gb_below {w w1 w2 : World} {row : Option Nat} (h : w.grownBy w1 row) (h2 : Below w1.heap.size w1 w2) : w.grownBy w2 row :=
  gb_trans h (grown_of_below h2 row)
theorem gb_none {w w1 : World} {row : Option Nat} (h : w.grownBy w1 none) : w.grownBy w1 row := ⟨h.os, h.tape, h.output, h.size, fun k hk _ => h.block k hk (by simp)⟩
theorem gb_to_below {w w1 : World} (h : w.grownBy w1 none) : Below w.heap.size w w1 := ⟨h.os, h.tape, h.output, h.size, fun k hk => h.block k hk (by simp)⟩
theorem gb_row {w w1 w2 : World} {row : Option Nat} {B : Nat} (h : w.grownBy w1 row) (h2 : w1.grownBy w2 (some B)) (hB : w.heap.size ≤ B) : w.grownBy w2 row :=
  ⟨h2.os.trans h.os, h2.tape.trans h.tape, h2.output.trans h.output, Nat.le_trans h.size h2.size, fun k hk hr => (h2.block k (by have := h.size; omega) (by intro e; injection e with e; omega)).trans (h.block k hk hr)⟩
def nth (ws : List Int) (i : Nat) : Int := ws.getD i 0
theorem nums_at (k : IntKind) (xs : List Int) (j : Nat) (h : j < xs.length) : (nums k xs)[j]? = some (.int k (nth xs j)) := by
  simp [nums, nth, List.getElem?_eq_getElem h, List.getD_eq_getElem?_getD]
theorem nth_append_left {xs ys : List Int} {j : Nat} (h : j < xs.length) : nth (xs ++ ys) j = nth xs j := by
  simp [nth, List.getD_eq_getElem?_getD, List.getElem?_append_left h]
theorem nth_append_right {xs ys : List Int} {j : Nat} (h : xs.length ≤ j) : nth (xs ++ ys) j = nth ys (j - xs.length) := by
  simp [nth, List.getD_eq_getElem?_getD, List.getElem?_append_right h]
theorem nth_take {xs : List Int} {n j : Nat} (h : j < n) : nth (xs.take n) j = nth xs j := by
  simp [nth, List.getD_eq_getElem?_getD, List.getElem?_take, h]
theorem nth_drop (xs : List Int) (n j : Nat) : nth (xs.drop n) j = nth xs (n + j) := by
  simp [nth, List.getD_eq_getElem?_getD]
theorem setCells_same' (g : Nat) : ∀ (vs : List Value) (o : Nat) (w : World), (w.setCells g o vs).os = w.os ∧ (w.setCells g o vs).tape = w.tape ∧ (w.setCells g o vs).output = w.output ∧ (w.setCells g o vs).heap.size = w.heap.size
  | [], _, _ => ⟨rfl, rfl, rfl, rfl⟩
  | v :: r, o, w => by
    obtain ⟨h1, h2, h3, h4⟩ := setCells_same' g r (o + 1) (w.setCell ⟨g, o, none⟩ v)
    rw [World.setCells]
    exact ⟨h1, h2, h3, by rw [h4]; simp [World.setCell]⟩
theorem isSome_setCells' (g : Nat) : ∀ (vs : List Value) (o : Nat) (w : World) (a : Addr), (w.cell? a).isSome = true → ((w.setCells g o vs).cell? a).isSome = true
  | [], _, _, _, h => h
  | v :: r, o, w, a, h => by
    rw [World.setCells]
    refine isSome_setCells' g r (o + 1) _ a ?_
    obtain ⟨x, hx⟩ := Option.isSome_iff_exists.1 h
    obtain ⟨v', hv'⟩ := cell?_setCell_some (w := w) (p := ⟨g, o, none⟩) (x := v) (q := a) (v := x) hx
    rw [hv']
    rfl
theorem add_zero' (g j : Nat) : (⟨g, 0, none⟩ : Addr).add j = ⟨g, j, none⟩ := by unfold Addr.add; split <;> simp_all
theorem add_at' (g o j : Nat) : (⟨g, o, none⟩ : Addr).add j = ⟨g, o + j, none⟩ := by unfold Addr.add; split <;> simp_all
/-- A row of the call's own, told by its cells: it begins at its block's head; its capacity may be written. -/
def OwnC (k : IntKind) (base : Nat) (w : World) (v : Value) (xs : List Int) : Prop :=
  (v = .slice none 0 0 ∧ xs = []) ∨ ∃ g cap, v = .slice (some ⟨g, 0, none⟩) xs.length cap ∧ base ≤ g ∧ g < w.heap.size ∧ xs.length ≤ cap ∧ cap ≤ maxLen ∧
    (∀ j, j < xs.length → w.cell? ⟨g, j, none⟩ = some (.int k (nth xs j))) ∧ (∀ j, j < cap → (w.cell? ⟨g, j, none⟩).isSome = true ∧ w.frozen? ⟨g, j, none⟩ = false)
theorem OwnC.nil (k : IntKind) (base : Nat) (w : World) : OwnC k base w (.slice none 0 0) [] := .inl ⟨rfl, rfl⟩
theorem OwnC.move {k : IntKind} {base : Nat} {w w1 : World} {v : Value} {xs : List Int} (h : OwnC k base w v xs) (hsz : w.heap.size ≤ w1.heap.size) (hb : ∀ g, v.ownBlock = some g → w1.heap[g]? = w.heap[g]?) : OwnC k base w1 v xs := by
  rcases h with h | ⟨g, cap, rfl, h1, h2, h3, h4, h5, h6⟩
  · exact .inl h
  · have e := hb g (by simp [Value.ownBlock])
    refine .inr ⟨g, cap, rfl, h1, by omega, h3, h4, fun j hj => ?_, fun j hj => ?_⟩
    · rw [World.cell?_of_block (a := ⟨g, j, none⟩) e]; exact h5 j hj
    · rw [World.cell?_of_block (a := ⟨g, j, none⟩) e, World.frozen?_of_block (a := ⟨g, j, none⟩) e]; exact h6 j hj
theorem OwnC.lt {k : IntKind} {base : Nat} {w : World} {v : Value} {xs : List Int} (h : OwnC k base w v xs) : ∀ g, v.ownBlock = some g → base ≤ g ∧ g < w.heap.size := by
  rcases h with ⟨rfl, _⟩ | ⟨g, cap, rfl, h1, h2, _⟩
  · simp [Value.ownBlock]
  · intro g' hg
    simp [Value.ownBlock] at hg
    subst hg
    exact ⟨h1, h2⟩
theorem OwnC.grown {k : IntKind} {base : Nat} {w w1 : World} {v : Value} {xs : List Int} (h : OwnC k base w v xs) {row : Option Nat} (hg : w.grownBy w1 row) (hne : ∀ g, v.ownBlock = some g → some g ≠ row) : OwnC k base w1 v xs :=
  h.move hg.size fun g hb => hg.block g (h.lt g hb).2 (hne g hb)
theorem OwnC.drew {k : IntKind} {base : Nat} {w : World} {v : Value} {xs : List Int} (h : OwnC k base w v xs) : OwnC k base w.drew v xs := h
theorem OwnC.drewN {k : IntKind} {base : Nat} {w : World} {v : Value} {xs : List Int} (h : OwnC k base w v xs) (n : Nat) : OwnC k base (w.drewN n) v xs := h
theorem OwnC.alloc {k : IntKind} {base : Nat} {w : World} {v : Value} {xs : List Int} (h : OwnC k base w v xs) (o : Obj) : OwnC k base (w.alloc o) v xs :=
  h.grown (gb_alloc (gb_refl w none) o) (by simp)
theorem OwnC.slice {k : IntKind} {base : Nat} {w : World} {v : Value} {xs : List Int} (h : OwnC k base w v xs) : ∃ A c, v = .slice A xs.length c := by
  rcases h with ⟨rfl, rfl⟩ | ⟨g, cap, rfl, _⟩
  · exact ⟨none, 0, rfl⟩
  · exact ⟨_, _, rfl⟩
/-- What is appended reads as these numbers. -/
theorem src_nums {P : Program} {tx e' : TypeId} (hk : P.underlying tx = some (.slice e')) {k : IntKind} (a : Addr) (c : Nat) (ys : List Int) (w : World) (h : ∀ j, j < ys.length → w.cell? (a.add j) = some (.int k (nth ys j))) :
    Src P 1 tx (.slice (some a) ys.length c) ys.length (nums k ys) w :=
  Src.ofSlice w hk a ys.length c (nums k ys) (by simp [nums]) (fun j u hu => by
    have hj : j < ys.length := by
      have := (List.getElem?_eq_some_iff.1 hu).1
      simpa [nums] using this
    rw [nums_at k ys j hj] at hu
    rw [h j hj, hu]) (fun u hu => by
    obtain ⟨_, _, rfl⟩ := List.mem_map.1 hu
    rfl)
section
variable {P : Program}
theorem OwnC.append {k : IntKind} {base : Nat} {w : World} {v : Value} {xs : List Int} (h : OwnC k base w v xs) (t tx ty e : TypeId) (bytes : Nat) (ht : P.underlying t = some (.slice e))
    (hinfo : (P.info? e).map (fun i => (i.zero, i.size, i.bytes)) = some (some (.int k 0), 1, bytes)) (x : Value) (ys : List Int) (hs : Src P 1 tx x ys.length (nums k ys) w)
    (hbytes : (xs.length + ys.length) * bytes ≤ 140737488355328) (hmax : xs.length + ys.length ≤ 140737488355328) (hbase : base ≤ w.heap.size) :
    ∃ v' w', (Builtin.append_ #[t, tx] ty #[v, x]).run P w = .ok v' w' ∧ OwnC k base w' v' (xs ++ ys) ∧ w.grownBy w' v.ownBlock ∧ (∀ g, v'.ownBlock = some g → v.ownBlock = some g ∨ w.heap.size ≤ g) := by
  obtain ⟨i, hi, hzz⟩ := Option.map_eq_some_iff.1 hinfo
  simp only [Prod.mk.injEq] at hzz
  obtain ⟨hz, hsz, hby⟩ := hzz
  subst hby
  rw [← hsz] at hs
  have one : (nums k ys).length = ys.length := nums_length k ys
  have grow : ∀ (A : Option Addr) (cap : Nat), v = .slice A xs.length cap → cap < xs.length + ys.length → (Builtin.firstCells i.size xs.length (.slice A xs.length cap)).run P w.drew = .ok (nums k xs).toArray w.drew →
      ∃ v' w', (Builtin.append_ #[t, tx] ty #[v, x]).run P w = .ok v' w' ∧ OwnC k base w' v' (xs ++ ys) ∧ w.grownBy w' v.ownBlock ∧ (∀ g, v'.ownBlock = some g → v.ownBlock = some g ∨ w.heap.size ≤ g) := by
    rintro A cap rfl hc hold
    have hr := run_append_grow_src (P := P) w t tx ty e i _ ht hi hz A xs.length cap (nums k xs) hold x ys.length (nums k ys) hs hc (by omega) (growslice_fits hc hbytes)
    refine ⟨_, _, hr, .inr ⟨w.heap.size, _, by rw [List.length_append], hbase, by simp, by rw [List.length_append]; exact grownCap_ge _ _ _ _, grownCap_le_maxLen _ _ _ _ (by simp only [maxLen]; omega), ?_, ?_⟩, ⟨rfl, rfl, rfl, by simp, fun j hj _ => Below.heap_alloc w.drew _ j hj⟩, fun g hg => .inr (by simp [Value.ownBlock] at hg; omega)⟩
    · intro j hj
      rw [List.length_append] at hj
      refine (World.cell?_alloc_mark w.drew _ e (0, 0) j).trans ?_
      rw [← nums_append, Array.getElem?_append_left (by simp [nums]; omega)]
      rw [List.getElem?_toArray]
      exact nums_at k (xs ++ ys) j (by rw [List.length_append]; exact hj)
    · intro j hj
      have hz1 : (Value.cells (Value.int k 0)).size = 1 := rfl
      have hge := grownCap_ge w (xs.length + ys.length) cap e
      constructor
      · refine (congrArg Option.isSome (World.cell?_alloc_mark w.drew _ e (0, 0) j)).trans ?_
        rw [Array.getElem?_eq_getElem (by simp only [Array.size_append, List.size_toArray, List.length_append, nums_length, size_zeroCells, hz1]; omega)]
        rfl
      · show World.frozen? (w.drew.alloc _) ⟨w.drew.heap.size, j, none⟩ = false
        simp only [World.frozen?]
        rw [heap_alloc_new]
        simp
  rcases h with ⟨rfl, rfl⟩ | ⟨g, cap, rfl, h1, h2, h3, h4, h5, h6⟩
  · by_cases h0 : ys.length = 0
    · have hy : ys = [] := List.eq_nil_of_length_eq_zero h0
      subst hy
      refine ⟨.slice none 0 0, w, ?_, .inl ⟨rfl, rfl⟩, gb_refl _ _, fun g hg => by simp [Value.ownBlock] at hg⟩
      exact run_append_nothing w t tx ty e i ht hi none 0 0 (Nat.le_refl _) x hs
    · exact grow none 0 rfl (by simp; omega) (by simp [Builtin.firstCells, nums])
  · by_cases hroom : xs.length + ys.length ≤ cap
    · have hr := run_append_room_src (P := P) w t tx ty e i ht hi g 0 xs.length cap x ys.length (nums k ys) hs hroom (fun j hj => by rw [hsz]; exact (h6 _ (by rw [one] at hj; omega)).1) (fun j hj => by rw [hsz]; exact (h6 _ (by rw [one] at hj; omega)).2)
      rw [hsz] at hr
      simp only [Nat.mul_one, Nat.zero_add] at hr
      have hot : ∀ q, q < w.heap.size → q ≠ g → (w.setCells g xs.length (nums k ys)).heap[q]? = w.heap[q]? := fun q hq hne => (World.keptBut_setCells g (may := fun p => p.block = g) (nums k ys) xs.length w (fun _ _ => rfl)).block hq (fun _ hp e => hne (e.symm.trans hp))
      have hkb := World.keptBut_setCells g (may := fun _ => True) (nums k ys) xs.length w (fun _ _ => trivial)
      have hsm := setCells_same' g (nums k ys) xs.length w
      refine ⟨_, _, hr, .inr ⟨g, cap, by rw [List.length_append], h1, by rw [hsm.2.2.2]; exact h2, by rw [List.length_append]; exact hroom, h4, ?_, ?_⟩, ⟨hsm.1, hsm.2.1, hsm.2.2.1, by rw [hsm.2.2.2]; exact Nat.le_refl _, fun q hq hne => hot q hq (fun e => hne (by simp [Value.ownBlock, e]))⟩, fun q hq => .inl hq⟩
      · intro j hj
        rw [List.length_append] at hj
        by_cases hjx : j < xs.length
        · rw [World.cell?_setCells_out g (nums k ys) xs.length w ⟨g, j, none⟩ (fun _ _ => .inl hjx), h5 j hjx, nth_append_left hjx]
        · obtain ⟨q, rfl⟩ : ∃ q, j = xs.length + q := ⟨j - xs.length, by omega⟩
          have hq : q < (nums k ys).length := by rw [one]; omega
          rw [World.cell?_setCells_in g (nums k ys) xs.length w (fun q' hq' => (h6 _ (by rw [one] at hq'; omega)).1) q hq]
          rw [nth_append_right (by omega), show xs.length + q - xs.length = q by omega]
          have := nums_at k ys q (by rw [one] at hq; exact hq)
          rw [List.getElem?_eq_getElem hq] at this
          rw [← this]
      · intro j hj
        refine ⟨?_, by rw [World.frozen?_setCells]; exact (h6 j hj).2⟩
        exact isSome_setCells' g (nums k ys) xs.length w _ (h6 j hj).1
    · refine grow (some ⟨g, 0, none⟩) cap rfl (by omega) ?_
      refine run_firstCells_some (P := P) w.drew i.size xs.length ⟨g, 0, none⟩ xs.length cap (nums k xs) (by rw [hsz]; simp [nums]) (fun j u hu => ?_)
      have hj : j < xs.length := by
        have := (List.getElem?_eq_some_iff.1 hu).1
        simpa [nums] using this
      rw [nums_at k xs j hj] at hu
      rw [add_zero', ← hu]
      exact h5 j hj
end
end Go.Proofs.YtjhmdijmnnobhaaDoor

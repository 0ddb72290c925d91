/- Contracts of Go functions that the statement reaches, proved by walking their text, and plain laws over them (texts put together). -/
import Derived.Test.YthpkoidlpfllaaaDoorProg
import Derived.Below
import Derived.Deep.Draws
import Derived.Deep.AppendLies
import Derived.Deep.AppendSrc
import Derived.Deep.Upon
import Derived.Maps.AppendAt
import Derived.OwnWalk
import Derived.Laws.BytesArg
import Derived.Laws.MakeOwn
import Derived.Laws.OwnMore
import Derived.Deep.OwnRows
import Derived.Tactics
import Derived.Lib.ConvBytes
import Derived.Lib.Hide
import Derived.Laws.Slices
import Derived.WalkKit
import Derived.KernelRfl
import Derived.RowKit3
import Derived.Deep.LoopGhost
import Derived.Deep.QuietTactic
import Derived.BigQuiet
import Derived.WideLaws
import Derived.Deep.DeepCutAuto
import Derived.Deep.CutBlock
import Derived.Laws.Rows
import Derived.Lib.AppendStr
import Derived.ArgAppend
import Derived.Laws.IdiomCopy
import Derived.Laws.IdiomStrings
import Derived.Laws.BitsLemmas
import Derived.RowKit
import Derived.Outline
import Derived.Deep.MidRow
import Derived.Deep.RegionHeld3
import Derived.StillTailTactics
import Derived.Lib.ItoaNum
import Derived.Shelf.Small.Bits
set_option linter.unusedVariables false
set_option linter.unusedSimpArgs false
namespace Go.Proofs.YthpkoidlpfllaaaDoor
open Go.RowKit
theorem Hd {p : Prop} (h : p) : Hid p := h
theorem SQ : (∀ (a : Act) (v : Value) (d : Tmp), a.put (some d) v = { tmps := a.tmps.setIfInBounds d v, defers := a.defers }) ∧ (∀ (a : Act) (v : Value), a.put none v = a) ∧ (∀ {α : Type} {xs : List α} {i : Nat} (h : i < xs.toArray.size), xs.toArray[i]'h = xs[i]'(by simpa using h)) ∧ (∀ {α : Type} (a : α) (l : List α) (i : Nat) (h : i + 1 < (a :: l).length), (a :: l)[i + 1]'h = l[i]'(by simpa using h)) ∧ (∀ {α : Type} (a : α) (l : List α) (h : 0 < (a :: l).length), (a :: l)[0]'h = a) ∧ (∀ {α : Type} (l : List α) (i : Nat) (a : α), l.toArray.setIfInBounds i a = (l.set i a).toArray) ∧ (∀ {α : Type} {x : α} {xs : List α} {a : α}, (x :: xs).set 0 a = a :: xs) ∧ (∀ {α : Type} {x : α} {xs : List α} {i : Nat} {a : α}, (x :: xs).set (i + 1) a = x :: xs.set i a) :=
 ⟨fun _ _ _ => rfl, fun _ _ => rfl, fun _ => rfl, fun _ _ _ _ => rfl, fun _ _ _ => rfl, fun _ _ _ => List.setIfInBounds_toArray .., rfl, rfl⟩
def nums (k : IntKind) (xs : List Int) : List Value := xs.map fun x => .int k x
theorem nums_length (k : IntKind) (xs : List Int) : (nums k xs).length = xs.length := by simp [nums]
theorem nums_append (k : IntKind) (xs ys : List Int) : nums k (xs ++ ys) = nums k xs ++ nums k ys := by simp [nums]
theorem grown_of_below {w w1 : World} (h : Below w.heap.size w w1) (row : Option Nat) : w.grownBy w1 row := ⟨h.os, h.tape, h.output, h.size, fun i hi _ => h.block i hi⟩
def Arr (k : IntKind) (w : World) (B e : Nat) (ws : List Int) : Prop := w.heap[B]? = some (.cells (nums k ws).toArray e (0, 0))
theorem Arr.lt {k : IntKind} {w : World} {B e : Nat} {ws : List Int} (h : Arr k w B e ws) : B < w.heap.size := (Array.getElem?_eq_some_iff.1 h).1
theorem Arr.cell {k : IntKind} {w : World} {B e : Nat} {ws : List Int} (h : Arr k w B e ws) (i : Nat) (hi : i < ws.length) : w.cell? ⟨B, i, none⟩ = some (.int k (ws.getD i 0)) := by
 simp only [World.cell?]
 rw [show w.heap[B]? = some (.cells (nums k ws).toArray e (0, 0)) from h]
 simp [nums, List.getElem?_eq_getElem hi, List.getD_eq_getElem?_getD]
theorem Arr.frozen {k : IntKind} {w : World} {B e : Nat} {ws : List Int} (h : Arr k w B e ws) (i : Nat) : w.frozen? ⟨B, i, none⟩ = false := by
 simp only [World.frozen?]
 rw [show w.heap[B]? = some (.cells (nums k ws).toArray e (0, 0)) from h]
 simp
theorem Arr.set {k : IntKind} {w : World} {B e : Nat} {ws : List Int} (h : Arr k w B e ws) (i : Nat) (v : Int) : Arr k (w.setCell ⟨B, i, none⟩ (.int k v)) B e (ws.set i v) := by
 show (w.setCell ⟨B, i, none⟩ (.int k v)).heap[B]? = _
 simp only [World.setCell, Array.getElem?_modify, if_true]
 rw [show w.heap[B]? = some (.cells (nums k ws).toArray e (0, 0)) from h]
 simp [nums, List.map_set]
theorem Arr.other {k : IntKind} {w : World} {B e : Nat} {ws : List Int} (h : Arr k w B e ws) {a : Addr} (ha : B ≠ a.block) (u : Value) : Arr k (w.setCell a u) B e ws :=
 (Below.heap_setCell w a u B ha).trans h
theorem Arr.drew {k : IntKind} {w : World} {B e : Nat} {ws : List Int} (h : Arr k w B e ws) : Arr k w.drew B e ws := h
theorem Arr.drewN {k : IntKind} {w : World} {B e : Nat} {ws : List Int} (h : Arr k w B e ws) (n : Nat) : Arr k (w.drewN n) B e ws := h
theorem Arr.alloc {k : IntKind} {w : World} {B e : Nat} {ws : List Int} (h : Arr k w B e ws) (o : Obj) : Arr k (w.alloc o) B e ws :=
 (Below.heap_alloc w o B h.lt).trans h
theorem Arr.grown {k : IntKind} {w w1 : World} {B e : Nat} {ws : List Int} (h : Arr k w B e ws) {row : Option Nat} (hg : w.grownBy w1 row) (hr : some B ≠ row) : Arr k w1 B e ws :=
 (hg.block B h.lt hr).trans h
theorem Arr.below {k : IntKind} {w w1 : World} {B e N : Nat} {ws : List Int} (h : Arr k w B e ws) (hb : Below N w w1) (hr : B < N) : Arr k w1 B e ws :=
 (hb.block B hr).trans h
theorem gb_refl (w : World) (row : Option Nat) : w.grownBy w row := ⟨rfl, rfl, rfl, Nat.le_refl _, fun _ _ _ => rfl⟩
theorem gb_drew {w w1 : World} {row : Option Nat} (h : w.grownBy w1 row) : w.grownBy w1.drew row := ⟨h.os, h.tape, h.output, h.size, h.block⟩
theorem gb_drewN {w w1 : World} {row : Option Nat} (h : w.grownBy w1 row) (n : Nat) : w.grownBy (w1.drewN n) row := ⟨h.os, h.tape, h.output, h.size, h.block⟩
theorem gb_alloc {w w1 : World} {row : Option Nat} (h : w.grownBy w1 row) (o : Obj) : w.grownBy (w1.alloc o) row :=
 ⟨h.os, h.tape, h.output, by have := h.size; simp; omega, fun k hk hr => (Below.heap_alloc w1 o k (by have := h.size; omega)).trans (h.block k hk hr)⟩
theorem gb_set {w w1 : World} {row : Option Nat} (h : w.grownBy w1 row) {a : Addr} (ha : w.heap.size ≤ a.block ∨ some a.block = row) (u : Value) : w.grownBy (w1.setCell a u) row :=
 ⟨h.os, h.tape, h.output, by have := h.size; simp [World.setCell]; omega, fun k hk hr => (Below.heap_setCell w1 a u k (by
  rintro rfl
  rcases ha with ha | ha
  ·omega
  ·exact hr ha)).trans (h.block k hk hr)⟩
theorem gb_trans {w w1 w2 : World} {row : Option Nat} (h : w.grownBy w1 row) (h2 : w1.grownBy w2 row) : w.grownBy w2 row :=
 ⟨h2.os.trans h.os, h2.tape.trans h.tape, h2.output.trans h.output, Nat.le_trans h.size h2.size, fun k hk hr => (h2.block k (by have := h.size; omega) hr).trans (h.block k hk hr)⟩
theorem gb_below {w w1 w2 : World} {row : Option Nat} (h : w.grownBy w1 row) (h2 : Below w1.heap.size w1 w2) : w.grownBy w2 row :=
 gb_trans h (grown_of_below h2 row)
theorem gb_none {w w1 : World} {row : Option Nat} (h : w.grownBy w1 none) : w.grownBy w1 row := ⟨h.os, h.tape, h.output, h.size, fun k hk _ => h.block k hk (by simp)⟩
theorem gb_to_below {w w1 : World} (h : w.grownBy w1 none) : Below w.heap.size w w1 := ⟨h.os, h.tape, h.output, h.size, fun k hk => h.block k hk (by simp)⟩
theorem gb_row {w w1 w2 : World} {row : Option Nat} {B : Nat} (h : w.grownBy w1 row) (h2 : w1.grownBy w2 (some B)) (hB : w.heap.size ≤ B) : w.grownBy w2 row :=
 ⟨h2.os.trans h.os, h2.tape.trans h.tape, h2.output.trans h.output, Nat.le_trans h.size h2.size, fun k hk hr => (h2.block k (by have := h.size; omega) (by intro e; injection e with e; omega)).trans (h.block k hk hr)⟩
def nth (ws : List Int) (i : Nat) : Int := ws.getD i 0
theorem nums_at (k : IntKind) (xs : List Int) (j : Nat) (h : j < xs.length) : (nums k xs)[j]? = some (.int k (nth xs j)) := by
 simp [nums, nth, List.getElem?_eq_getElem h, List.getD_eq_getElem?_getD]
theorem nth_append_left {xs ys : List Int} {j : Nat} (h : j < xs.length) : nth (xs ++ ys) j = nth xs j := by
 simp [nth, List.getD_eq_getElem?_getD, List.getElem?_append_left h]
theorem nth_append_right {xs ys : List Int} {j : Nat} (h : xs.length ≤ j) : nth (xs ++ ys) j = nth ys (j - xs.length) := by
 simp [nth, List.getD_eq_getElem?_getD, List.getElem?_append_right h]
theorem nth_take {xs : List Int} {n j : Nat} (h : j < n) : nth (xs.take n) j = nth xs j := by
 simp [nth, List.getD_eq_getElem?_getD, List.getElem?_take, h]
theorem nth_drop (xs : List Int) (n j : Nat) : nth (xs.drop n) j = nth xs (n + j) := by
 simp [nth, List.getD_eq_getElem?_getD]
theorem setCells_same' (g : Nat) : ∀ (vs : List Value) (o : Nat) (w : World), (w.setCells g o vs).os = w.os ∧ (w.setCells g o vs).tape = w.tape ∧ (w.setCells g o vs).output = w.output ∧ (w.setCells g o vs).heap.size = w.heap.size
 | [], _, _ => ⟨rfl, rfl, rfl, rfl⟩
 | v :: r, o, w => by
  obtain ⟨h1, h2, h3, h4⟩ := setCells_same' g r (o + 1) (w.setCell ⟨g, o, none⟩ v)
  rw [World.setCells]
  exact ⟨h1, h2, h3, by rw [h4]; simp [World.setCell]⟩
theorem isSome_setCells' (g : Nat) : ∀ (vs : List Value) (o : Nat) (w : World) (a : Addr), (w.cell? a).isSome = true → ((w.setCells g o vs).cell? a).isSome = true
 | [], _, _, _, h => h
 | v :: r, o, w, a, h => by
  rw [World.setCells]
  refine isSome_setCells' g r (o + 1) _ a ?_
  obtain ⟨x, hx⟩ := Option.isSome_iff_exists.1 h
  obtain ⟨v', hv'⟩ := cell?_setCell_some (w := w) (p := ⟨g, o, none⟩) (x := v) (q := a) (v := x) hx
  rw [hv']
  rfl
theorem add_zero' (g j : Nat) : (⟨g, 0, none⟩ : Addr).add j = ⟨g, j, none⟩ := by unfold Addr.add; split <;> simp_all
theorem add_at' (g o j : Nat) : (⟨g, o, none⟩ : Addr).add j = ⟨g, o + j, none⟩ := by unfold Addr.add; split <;> simp_all
def OwnC (k : IntKind) (base : Nat) (w : World) (v : Value) (xs : List Int) : Prop :=
 (v = .slice none 0 0 ∧ xs = []) ∨ ∃ g cap, v = .slice (some ⟨g, 0, none⟩) xs.length cap ∧ base ≤ g ∧ g < w.heap.size ∧ xs.length ≤ cap ∧ cap ≤ maxLen ∧
  (∀ j, j < xs.length → w.cell? ⟨g, j, none⟩ = some (.int k (nth xs j))) ∧ (∀ j, j < cap → (w.cell? ⟨g, j, none⟩).isSome = true ∧ w.frozen? ⟨g, j, none⟩ = false)
theorem OwnC.nil (k : IntKind) (base : Nat) (w : World) : OwnC k base w (.slice none 0 0) [] := .inl ⟨rfl, rfl⟩
theorem OwnC.move {k : IntKind} {base : Nat} {w w1 : World} {v : Value} {xs : List Int} (h : OwnC k base w v xs) (hsz : w.heap.size ≤ w1.heap.size) (hb : ∀ g, v.ownBlock = some g → w1.heap[g]? = w.heap[g]?) : OwnC k base w1 v xs := by
 rcases h with h | ⟨g, cap, rfl, h1, h2, h3, h4, h5, h6⟩
 ·exact .inl h
 ·have e := hb g (by simp [Value.ownBlock])
  refine .inr ⟨g, cap, rfl, h1, by omega, h3, h4, fun j hj => ?_, fun j hj => ?_⟩
  ·rw [World.cell?_of_block (a := ⟨g, j, none⟩) e]; exact h5 j hj
  ·rw [World.cell?_of_block (a := ⟨g, j, none⟩) e, World.frozen?_of_block (a := ⟨g, j, none⟩) e]; exact h6 j hj
theorem OwnC.lt {k : IntKind} {base : Nat} {w : World} {v : Value} {xs : List Int} (h : OwnC k base w v xs) : ∀ g, v.ownBlock = some g → base ≤ g ∧ g < w.heap.size := by
 rcases h with ⟨rfl, _⟩ | ⟨g, cap, rfl, h1, h2, _⟩
 ·simp [Value.ownBlock]
 ·intro g' hg
  simp [Value.ownBlock] at hg
  subst hg
  exact ⟨h1, h2⟩
theorem OwnC.grown {k : IntKind} {base : Nat} {w w1 : World} {v : Value} {xs : List Int} (h : OwnC k base w v xs) {row : Option Nat} (hg : w.grownBy w1 row) (hne : ∀ g, v.ownBlock = some g → some g ≠ row) : OwnC k base w1 v xs :=
 h.move hg.size fun g hb => hg.block g (h.lt g hb).2 (hne g hb)
theorem OwnC.drew {k : IntKind} {base : Nat} {w : World} {v : Value} {xs : List Int} (h : OwnC k base w v xs) : OwnC k base w.drew v xs := h
theorem OwnC.drewN {k : IntKind} {base : Nat} {w : World} {v : Value} {xs : List Int} (h : OwnC k base w v xs) (n : Nat) : OwnC k base (w.drewN n) v xs := h
theorem OwnC.alloc {k : IntKind} {base : Nat} {w : World} {v : Value} {xs : List Int} (h : OwnC k base w v xs) (o : Obj) : OwnC k base (w.alloc o) v xs :=
 h.grown (gb_alloc (gb_refl w none) o) (by simp)
theorem OwnC.slice {k : IntKind} {base : Nat} {w : World} {v : Value} {xs : List Int} (h : OwnC k base w v xs) : ∃ A c, v = .slice A xs.length c := by
 rcases h with ⟨rfl, rfl⟩ | ⟨g, cap, rfl, _⟩
 ·exact ⟨none, 0, rfl⟩
 ·exact ⟨_, _, rfl⟩
theorem src_nums {P : Program} {tx e' : TypeId} (hk : P.underlying tx = some (.slice e')) {k : IntKind} (a : Addr) (c : Nat) (ys : List Int) (w : World) (h : ∀ j, j < ys.length → w.cell? (a.add j) = some (.int k (nth ys j))) :
  Src P 1 tx (.slice (some a) ys.length c) ys.length (nums k ys) w :=
 Src.ofSlice w hk a ys.length c (nums k ys) (by simp [nums]) (fun j u hu => by
  have hj : j < ys.length := by
   have := (List.getElem?_eq_some_iff.1 hu).1
   simpa [nums] using this
  rw [nums_at k ys j hj] at hu
  rw [h j hj, hu]) (fun u hu => by
  obtain ⟨_, _, rfl⟩ := List.mem_map.1 hu
  rfl)
section
variable {P : Program}
theorem OwnC.append {k : IntKind} {base : Nat} {w : World} {v : Value} {xs : List Int} (h : OwnC k base w v xs) (t tx ty e : TypeId) (bytes : Nat) (ht : P.underlying t = some (.slice e))
  (hinfo : (P.info? e).map (fun i => (i.zero, i.size, i.bytes)) = some (some (.int k 0), 1, bytes)) (x : Value) (ys : List Int) (hs : Src P 1 tx x ys.length (nums k ys) w)
  (hbytes : (xs.length + ys.length) * bytes ≤ 140737488355328) (hmax : xs.length + ys.length ≤ 140737488355328) (hbase : base ≤ w.heap.size) :
  ∃ v' w', (Builtin.append_ #[t, tx] ty #[v, x]).run P w = .ok v' w' ∧ OwnC k base w' v' (xs ++ ys) ∧ w.grownBy w' v.ownBlock ∧ (∀ g, v'.ownBlock = some g → v.ownBlock = some g ∨ w.heap.size ≤ g) := by
 obtain ⟨i, hi, hzz⟩ := Option.map_eq_some_iff.1 hinfo
 simp only [Prod.mk.injEq] at hzz
 obtain ⟨hz, hsz, hby⟩ := hzz
 subst hby
 rw [← hsz] at hs
 have one : (nums k ys).length = ys.length := nums_length k ys
 have grow : ∀ (A : Option Addr) (cap : Nat), v = .slice A xs.length cap → cap < xs.length + ys.length → (Builtin.firstCells i.size xs.length (.slice A xs.length cap)).run P w.drew = .ok (nums k xs).toArray w.drew →
   ∃ v' w', (Builtin.append_ #[t, tx] ty #[v, x]).run P w = .ok v' w' ∧ OwnC k base w' v' (xs ++ ys) ∧ w.grownBy w' v.ownBlock ∧ (∀ g, v'.ownBlock = some g → v.ownBlock = some g ∨ w.heap.size ≤ g) := by
  rintro A cap rfl hc hold
  have hr := run_append_grow_src (P := P) w t tx ty e i _ ht hi hz A xs.length cap (nums k xs) hold x ys.length (nums k ys) hs hc (by omega) (growslice_fits hc hbytes)
  refine ⟨_, _, hr, .inr ⟨w.heap.size, _, by rw [List.length_append], hbase, by simp, by rw [List.length_append]; exact grownCap_ge _ _ _ _, grownCap_le_maxLen _ _ _ _ (by simp only [maxLen]; omega), ?_, ?_⟩, ⟨rfl, rfl, rfl, by simp, fun j hj _ => Below.heap_alloc w.drew _ j hj⟩, fun g hg => .inr (by simp [Value.ownBlock] at hg; omega)⟩
  ·intro j hj
   rw [List.length_append] at hj
   refine (World.cell?_alloc_mark w.drew _ e (0, 0) j).trans ?_
   rw [← nums_append, Array.getElem?_append_left (by simp [nums]; omega)]
   rw [List.getElem?_toArray]
   exact nums_at k (xs ++ ys) j (by rw [List.length_append]; exact hj)
  ·intro j hj
   have hz1 : (Value.cells (Value.int k 0)).size = 1 := rfl
   have hge := grownCap_ge w (xs.length + ys.length) cap e
   constructor
   ·refine (congrArg Option.isSome (World.cell?_alloc_mark w.drew _ e (0, 0) j)).trans ?_
    rw [Array.getElem?_eq_getElem (by simp only [Array.size_append, List.size_toArray, List.length_append, nums_length, size_zeroCells, hz1]; omega)]
    rfl
   ·show World.frozen? (w.drew.alloc _) ⟨w.drew.heap.size, j, none⟩ = false
    simp only [World.frozen?]
    rw [heap_alloc_new]
    simp
 rcases h with ⟨rfl, rfl⟩ | ⟨g, cap, rfl, h1, h2, h3, h4, h5, h6⟩
 ·by_cases h0 : ys.length = 0
  ·have hy : ys = [] := List.eq_nil_of_length_eq_zero h0
   subst hy
   refine ⟨.slice none 0 0, w, ?_, .inl ⟨rfl, rfl⟩, gb_refl _ _, fun g hg => by simp [Value.ownBlock] at hg⟩
   exact run_append_nothing w t tx ty e i ht hi none 0 0 (Nat.le_refl _) x hs
  ·exact grow none 0 rfl (by simp; omega) (by simp [Builtin.firstCells, nums])
 ·by_cases hroom : xs.length + ys.length ≤ cap
  ·have hr := run_append_room_src (P := P) w t tx ty e i ht hi g 0 xs.length cap x ys.length (nums k ys) hs hroom (fun j hj => by rw [hsz]; exact (h6 _ (by rw [one] at hj; omega)).1) (fun j hj => by rw [hsz]; exact (h6 _ (by rw [one] at hj; omega)).2)
   rw [hsz] at hr
   simp only [Nat.mul_one, Nat.zero_add] at hr
   have hot : ∀ q, q < w.heap.size → q ≠ g → (w.setCells g xs.length (nums k ys)).heap[q]? = w.heap[q]? := fun q hq hne => (World.keptBut_setCells g (may := fun p => p.block = g) (nums k ys) xs.length w (fun _ _ => rfl)).block hq (fun _ hp e => hne (e.symm.trans hp))
   have hkb := World.keptBut_setCells g (may := fun _ => True) (nums k ys) xs.length w (fun _ _ => trivial)
   have hsm := setCells_same' g (nums k ys) xs.length w
   refine ⟨_, _, hr, .inr ⟨g, cap, by rw [List.length_append], h1, by rw [hsm.2.2.2]; exact h2, by rw [List.length_append]; exact hroom, h4, ?_, ?_⟩, ⟨hsm.1, hsm.2.1, hsm.2.2.1, by rw [hsm.2.2.2]; exact Nat.le_refl _, fun q hq hne => hot q hq (fun e => hne (by simp [Value.ownBlock, e]))⟩, fun q hq => .inl hq⟩
   ·intro j hj
    rw [List.length_append] at hj
    by_cases hjx : j < xs.length
    ·rw [World.cell?_setCells_out g (nums k ys) xs.length w ⟨g, j, none⟩ (fun _ _ => .inl hjx), h5 j hjx, nth_append_left hjx]
    ·obtain ⟨q, rfl⟩ : ∃ q, j = xs.length + q := ⟨j - xs.length, by omega⟩
     have hq : q < (nums k ys).length := by rw [one]; omega
     rw [World.cell?_setCells_in g (nums k ys) xs.length w (fun q' hq' => (h6 _ (by rw [one] at hq'; omega)).1) q hq]
     rw [nth_append_right (by omega), show xs.length + q - xs.length = q by omega]
     have := nums_at k ys q (by rw [one] at hq; exact hq)
     rw [List.getElem?_eq_getElem hq] at this
     rw [← this]
   ·intro j hj
    refine ⟨?_, by rw [World.frozen?_setCells]; exact (h6 j hj).2⟩
    exact isSome_setCells' g (nums k ys) xs.length w _ (h6 j hj).1
  ·refine grow (some ⟨g, 0, none⟩) cap rfl (by omega) ?_
   refine run_firstCells_some (P := P) w.drew i.size xs.length ⟨g, 0, none⟩ xs.length cap (nums k xs) (by rw [hsz]; simp [nums]) (fun j u hu => ?_)
   have hj : j < xs.length := by
    have := (List.getElem?_eq_some_iff.1 hu).1
    simpa [nums] using this
   rw [nums_at k xs j hj] at hu
   rw [add_zero', ← hu]
   exact h5 j hj
end
def bytesOf (s : ByteArray) : List Int := s.data.toList.map fun b => (b.toNat : Int)
theorem bytesOf_length (s : ByteArray) : (bytesOf s).length = s.size := by
 unfold bytesOf
 rw [List.length_map, Array.length_toList]
 rfl
def IsBytes (l : List Int) : Prop := ∀ x ∈ l, 0 ≤ x ∧ x ≤ 255
theorem bytesOf_isBytes (s : ByteArray) : IsBytes (bytesOf s) := by
 intro x hx
 obtain ⟨b, _, rfl⟩ := List.mem_map.1 hx
 have := b.toNat_lt
 omega
theorem IsBytes.nth {l : List Int} (h : IsBytes l) (j : Nat) : 0 ≤ nth l j ∧ nth l j ≤ 255 := by
 by_cases hj : j < l.length
 ·unfold Proofs.YthpkoidlpfllaaaDoor.nth
  rw [List.getD_eq_getElem?_getD, List.getElem?_eq_getElem hj]
  exact h _ (List.getElem_mem hj)
 ·unfold Proofs.YthpkoidlpfllaaaDoor.nth
  rw [List.getD_eq_getElem?_getD, List.getElem?_eq_none (by omega)]
  simp
theorem bytesOf_strOfNums {l : List Int} (h : IsBytes l) : bytesOf (strOfNums l) = l := by
 unfold bytesOf
 rw [strOfNums_data, List.map_map]
 conv => rhs; rw [← List.map_id l]
 refine List.map_congr_left fun x hx => ?_
 obtain ⟨h0, h1⟩ := h x hx
 simp only [Function.comp, id]
 rw [UInt8.toNat_ofNat_of_lt' (show x.toNat < UInt8.size by show x.toNat < 256; omega)]
 omega
theorem strOfNums_bytesOf (s : ByteArray) : strOfNums (bytesOf s) = s := by
 apply ByteArray.ext
 apply Array.ext'
 rw [strOfNums_data]
 unfold bytesOf
 rw [List.map_map]
 conv => rhs; rw [← List.map_id s.data.toList]
 refine List.map_congr_left fun x _ => ?_
 simp
theorem bytesOf_append (s t : ByteArray) : bytesOf (s ++ t) = bytesOf s ++ bytesOf t := by
 unfold bytesOf
 rw [← List.map_append]
 congr 1
theorem strOfNums_append (l m : List Int) : strOfNums (l ++ m) = strOfNums l ++ strOfNums m := by
 apply ByteArray.ext
 apply Array.ext'
 rw [ByteArray.data_append, Array.toList_append, strOfNums_data, strOfNums_data, strOfNums_data, List.map_append]
section
variable {P : Program}
theorem own_bytes (w : World) (e : TypeId) (s : ByteArray) (hs : s.size ≤ maxLen) :
  OwnC .u8 w.heap.size (Lib.bytesWorld w e s) (.slice (some ⟨w.heap.size, 0, none⟩) s.size (grownCap w s.size 0 e)) (bytesOf s) ∧ w.grownBy (Lib.bytesWorld w e s) none := by
 have hg := grownCap_ge w s.size 0 e
 have hn := Lib.bytesWorld_at_new w e s
 have hsz : (Lib.bytesCells w e s).size = grownCap w s.size 0 e := by
  have : s.data.size = s.size := rfl
  simp only [Lib.bytesCells, Array.size_append, Array.size_map, Array.size_replicate, this]
  omega
 refine ⟨.inr ⟨w.heap.size, _, by rw [bytesOf_length], Nat.le_refl _, by rw [Lib.bytesWorld_size]; omega, by rw [bytesOf_length]; exact hg, grownCap_le_maxLen w s.size 0 e hs, ?_, ?_⟩, ⟨rfl, rfl, rfl, by rw [Lib.bytesWorld_size]; omega, fun k hk _ => Lib.bytesWorld_at_old w e s k hk⟩⟩
 ·intro j hj
  rw [bytesOf_length] at hj
  rw [Lib.bytesWorld_cell w e s j hj]
  unfold nth bytesOf
  rw [List.getD_eq_getElem?_getD, List.getD_eq_getElem?_getD, List.getElem?_map]
  have hj' : j < s.data.toList.length := by rw [Array.length_toList]; exact hj
  rw [List.getElem?_eq_getElem hj']
  simp
 ·intro j hj
  constructor
  ·simp only [World.cell?]
   rw [hn]
   simp only [Option.isSome_none, Bool.false_eq_true, if_false]
   rw [Array.getElem?_eq_getElem (by omega)]
   rfl
  ·simp only [World.frozen?]
   rw [hn]
   simp only [Bool.and_eq_false_iff, decide_eq_false_iff_not]
   left
   omega
theorem str_of_cells (w : World) (src e dst : TypeId) (hs : P.underlying src = some (.slice e)) (he : P.underlying e = some (.int .u8)) (hd : P.underlying dst = some .string) (b o c : Nat) (xs : List Int)
  (hc : ∀ j, j < xs.length → w.cell? ⟨b, o + j, none⟩ = some (.int .u8 (nth xs j))) : (convert src dst (.slice (some ⟨b, o, none⟩) xs.length c)).run P w = .ok (.string (strOfNums xs)) w :=
 run_convert_bytes_arg w src e hs he b o xs.length c xs rfl hc dst hd
theorem str_of_own (w : World) (src e dst : TypeId) (hs : P.underlying src = some (.slice e)) (he : P.underlying e = some (.int .u8)) (hd : P.underlying dst = some .string) {base : Nat} {v : Value} {xs : List Int} (h : OwnC .u8 base w v xs) :
  (convert src dst v).run P w = .ok (.string (strOfNums xs)) w := by
 rcases h with ⟨rfl, rfl⟩ | ⟨g, cap, rfl, h1, h2, h3, h4, h5, h6⟩
 ·exact run_convert_bytes_nil w src e hs he 0 0 dst hd
 ·exact str_of_cells w src e dst hs he hd g 0 cap xs (fun j hj => by rw [Nat.zero_add]; exact h5 j hj)
variable {ops : Array Oper} {rest : List Oper} {o : Oper} {a : Act} {Q : Exit → Act → World → Prop}
theorem wpl_append {W : World} (hgd : o.guard = none) (s x : Operand) (t tx : TypeId) (ho : o.op = .call { callee := .builtin .append, args := #[s, x], argTypes := #[t, tx] }) (e : TypeId) (bytes : Nat)
  (ht : P.underlying t = some (.slice e)) {k : IntKind} (hinfo : (P.info? e).map (fun i => (i.zero, i.size, i.bytes)) = some (some (.int k 0), 1, bytes)) {base : Nat} (v : Value) (xs : List Int) (hs : a.eval s = v) (hown : OwnC k base W v xs)
  (xv : Value) (hx : a.eval x = xv) (ys : List Int) (hsrc : Src P 1 tx xv ys.length (nums k ys) W) (hbytes : (xs.length + ys.length) * bytes ≤ 140737488355328) (hmax : xs.length + ys.length ≤ 140737488355328) (hbase : base ≤ W.heap.size)
  (h : ∀ v' w', OwnC k base w' v' (xs ++ ys) → W.grownBy w' v.ownBlock → (∀ g, v'.ownBlock = some g → v.ownBlock = some g ∨ W.heap.size ≤ g) → wpList P ops Q rest (a.put o.dst v') w') : wpList P ops Q (o :: rest) a W :=
 wpList_plain hgd fun K hK => by
  obtain ⟨v', w', hr, h2, h3, h4⟩ := hown.append (P := P) t tx o.type e bytes ht hinfo xv ys hsrc hbytes hmax hbase
  unfold Oper.wp execOp
  simp only [ho, resolve, invoke, builtin, Sem.run_bind, Sem.run_pure, Result.andThen_ok, List.map_toArray, List.map_cons, List.map_nil, hs, hx, hr]
  exact hK _ _ (h v' w' h2 h3 h4)
end
def nine (r : Nat) : List UInt8 := (List.range 9).map fun t => Lib.dg r (8 - t)
theorem nine_eq (r : Nat) : nine r = [Lib.dg r 8, Lib.dg r 7, Lib.dg r 6, Lib.dg r 5, Lib.dg r 4, Lib.dg r 3, Lib.dg r 2, Lib.dg r 1, Lib.dg r 0] := rfl
theorem dec_ten {u : Nat} (h : 10 ≤ u) : Lib.decDigits u = Lib.decDigits (u / 10) ++ [Lib.dg u 0] := by
 rw [Lib.decDigits, dif_neg (by omega)]
 unfold Lib.dg
 simp
theorem dec_step {n : Nat} (h : 1000000000 ≤ n) : Lib.decDigits n = Lib.decDigits (n / 1000000000) ++ nine (n % 1000000000) := by
 have e : ∀ j, j < 9 → Lib.dg (n % 1000000000) j = Lib.dg n j := by
  intro j hj
  unfold Lib.dg
  have : n % 1000000000 / 10 ^ j % 10 = n / 10 ^ j % 10 := by
   rcases (by omega : j = 0 ∨ j = 1 ∨ j = 2 ∨ j = 3 ∨ j = 4 ∨ j = 5 ∨ j = 6 ∨ j = 7 ∨ j = 8) with rfl | rfl | rfl | rfl | rfl | rfl | rfl | rfl | rfl <;> simp only [Nat.pow_zero, Nat.reducePow] <;> omega
  rw [this]
 rw [nine_eq, e 0 (by omega), e 1 (by omega), e 2 (by omega), e 3 (by omega), e 4 (by omega), e 5 (by omega), e 6 (by omega), e 7 (by omega), e 8 (by omega)]
 rw [dec_ten (u := n) (by omega), dec_ten (u := n / 10) (by omega), Nat.div_div_eq_div_mul, dec_ten (u := n / (10 * 10)) (by omega), Nat.div_div_eq_div_mul, dec_ten (u := n / (10 * 10 * 10)) (by omega), Nat.div_div_eq_div_mul, dec_ten (u := n / (10 * 10 * 10 * 10)) (by omega), Nat.div_div_eq_div_mul,
  dec_ten (u := n / (10 * 10 * 10 * 10 * 10)) (by omega), Nat.div_div_eq_div_mul, dec_ten (u := n / (10 * 10 * 10 * 10 * 10 * 10)) (by omega), Nat.div_div_eq_div_mul, dec_ten (u := n / (10 * 10 * 10 * 10 * 10 * 10 * 10)) (by omega), Nat.div_div_eq_div_mul, dec_ten (u := n / (10 * 10 * 10 * 10 * 10 * 10 * 10 * 10)) (by omega), Nat.div_div_eq_div_mul]
 have f : ∀ k j, Lib.dg (n / 10 ^ k) j = Lib.dg n (k + j) := by
  intro k j
  unfold Lib.dg
  rw [Nat.div_div_eq_div_mul, ← Nat.pow_add]
 have g1 := f 1 0; have g2 := f 2 0; have g3 := f 3 0; have g4 := f 4 0; have g5 := f 5 0; have g6 := f 6 0; have g7 := f 7 0; have g8 := f 8 0
 simp only [Nat.reducePow, Nat.add_zero] at g1 g2 g3 g4 g5 g6 g7 g8
 simp only [Nat.reduceMul, g1, g2, g3, g4, g5, g6, g7, g8, List.append_assoc, List.cons_append, List.nil_append]
theorem nd_le {x k : Nat} (hk : 0 < k) (h : x < 10 ^ k) : Lib.nDigits x ≤ k := by
 induction k generalizing x with
 | zero => omega
 | succ k ih =>
  by_cases hx : x < 10
  ·rw [Lib.nDigits_small hx]; omega
  ·rw [Lib.nDigits_big hx]
   cases k with
   | zero => simp at h; omega
   | succ k =>
    have := ih (x := x / 10) (by omega) (by rw [Nat.pow_succ] at h; exact Nat.div_lt_of_lt_mul (by rw [Nat.mul_comm]; exact h))
    omega
theorem le_nd {x : Nat} (h : 0 < x) : 10 ^ (Lib.nDigits x - 1) ≤ x := by
 induction x using Nat.strongRecOn with
 | _ x ih =>
  by_cases hx : x < 10
  ·rw [Lib.nDigits_small hx]; show 10 ^ 0 ≤ x; rw [Nat.pow_zero]; omega
  ·rw [Lib.nDigits_big hx]
   have h1 := ih (x / 10) (by omega) (by omega)
   have h2 := Lib.nDigits_pos (x / 10)
   rw [show Lib.nDigits (x / 10) + 1 - 1 = (Lib.nDigits (x / 10) - 1) + 1 by omega, Nat.pow_succ]
   have := Nat.div_mul_le_self x 10
   omega
theorem dec_nine {x : Nat} (h : x < 1000000000) : Lib.decDigits x = (nine x).drop (9 - Lib.nDigits x) := by
 have h9 : Lib.nDigits x ≤ 9 := nd_le (by decide) (by simpa using h)
 have h1 := Lib.nDigits_pos x
 rw [Lib.decDigits_eq]
 apply List.ext_getElem
 ·simp [nine]; omega
 ·intro i hi _
  simp [nine]
  congr 1
  simp at hi
  omega
theorem nine_zero {x j : Nat} (h : x < 1000000000) (hj : j < 9 - Lib.nDigits x) : (nine x)[j]? = some 48 := by
 have hlt := Lib.lt_pow_nDigits x
 have hj9 : j < 9 := by omega
 have : x < 10 ^ (8 - j) := Nat.lt_of_lt_of_le hlt (Nat.pow_le_pow_right (by decide) (by omega))
 simp [nine, hj9]
 unfold Lib.dg
 rw [Nat.div_eq_of_lt this]
 rfl
theorem nine_first {x : Nat} (h0 : 0 < x) (h : x < 1000000000) : ∃ b, (nine x)[9 - Lib.nDigits x]? = some b ∧ b ≠ 48 := by
 have h9 : Lib.nDigits x ≤ 9 := nd_le (by decide) (by simpa using h)
 have h1 := Lib.nDigits_pos x
 refine ⟨Lib.dg x (Lib.nDigits x - 1), ?_, ?_⟩
 ·unfold nine
  rw [List.getElem?_map, List.getElem?_range (by omega)]
  show some (Lib.dg x (8 - (9 - Lib.nDigits x))) = _
  rw [show 8 - (9 - Lib.nDigits x) = Lib.nDigits x - 1 by omega]
 ·have hl := le_nd h0
  have hu := Lib.lt_pow_nDigits x
  have hd : x / 10 ^ (Lib.nDigits x - 1) < 10 := by
   refine Nat.div_lt_of_lt_mul ?_
   rw [← Nat.pow_succ, show (Lib.nDigits x - 1).succ = Lib.nDigits x by omega]
   exact hu
  have hp : 0 < x / 10 ^ (Lib.nDigits x - 1) := Nat.div_pos hl (Nat.pow_pos (by decide))
  unfold Lib.dg
  rw [Nat.mod_eq_of_lt hd]
  generalize x / 10 ^ (Lib.nDigits x - 1) = d at hd hp
  have : d = 1 ∨ d = 2 ∨ d = 3 ∨ d = 4 ∨ d = 5 ∨ d = 6 ∨ d = 7 ∨ d = 8 ∨ d = 9 := by omega
  rcases this with rfl | rfl | rfl | rfl | rfl | rfl | rfl | rfl | rfl <;> decide
theorem dec_ne (n : Nat) : Lib.decDigits n ≠ [] := by
 intro h
 have := Lib.decDigits_length n
 rw [h] at this
 have h2 := Lib.nDigits_pos n
 simp at this
 omega
def partsN (n : Nat) : List Nat := if h : n = 0 then [] else n % 1000000000 :: partsN (n / 1000000000)
termination_by n
decreasing_by omega
theorem partsN_zero : partsN 0 = [] := by rw [partsN]; simp
theorem partsN_pos {n : Nat} (h : n ≠ 0) : partsN n = n % 1000000000 :: partsN (n / 1000000000) := by rw [partsN, dif_neg h]
theorem partsN_lt (n : Nat) : ∀ x ∈ partsN n, x < 1000000000 := by
 induction n using Nat.strongRecOn with
 | _ n ih =>
  intro x hx
  by_cases h : n = 0
  ·rw [h, partsN_zero] at hx; cases hx
  ·rw [partsN_pos h] at hx
   rcases List.mem_cons.1 hx with rfl | hx
   ·exact Nat.mod_lt _ (by decide)
   ·exact ih _ (by omega) x hx
def grpB (out : List UInt8) (x : Nat) : List UInt8 := out ++ if out = [] then Lib.decDigits x else nine x
theorem parts_dec {n : Nat} (h : n ≠ 0) : (partsN n).reverse.foldl grpB [] = Lib.decDigits n := by
 induction n using Nat.strongRecOn with
 | _ n ih =>
  rw [partsN_pos h, List.reverse_cons, List.foldl_append]
  by_cases hq : n / 1000000000 = 0
  ·rw [hq, partsN_zero]
   show grpB [] (n % 1000000000) = _
   have : n < 1000000000 := by omega
   rw [Nat.mod_eq_of_lt this]
   rfl
  ·rw [ih _ (by omega) hq]
   show grpB (Lib.decDigits (n / 1000000000)) (n % 1000000000) = _
   unfold grpB
   rw [if_neg (dec_ne _), ← dec_step (by omega)]
def valN : List Nat → Nat
 | [] => 0
 | x :: xs => x + 4294967296 * valN xs
def Wd (xs : List Nat) : Prop := ∀ x ∈ xs, x < 4294967296
def dgF : Nat → Nat → List Nat
 | 0, _ => []
 | F + 1, n => if n = 0 then [] else n % 4294967296 :: dgF F (n / 4294967296)
def dg (n : Nat) : List Nat := dgF n n
theorem dgF_more : ∀ (F G n : Nat), n ≤ F → n ≤ G → dgF F n = dgF G n
 | 0, 0, n, _, _ => rfl
 | 0, G + 1, n, h, _ => by
  obtain rfl : n = 0 := by omega
  simp [dgF]
 | F + 1, 0, n, _, h => by
  obtain rfl : n = 0 := by omega
  simp [dgF]
 | F + 1, G + 1, n, h, h' => by
  rw [dgF, dgF]
  by_cases h0 : n = 0
  ·rw [if_pos h0, if_pos h0]
  ·rw [if_neg h0, if_neg h0, dgF_more F G _ (by omega) (by omega)]
theorem dg_zero : dg 0 = [] := rfl
theorem dg_pos {n : Nat} (h : n ≠ 0) : dg n = n % 4294967296 :: dg (n / 4294967296) := by
 unfold dg
 obtain ⟨m, rfl⟩ : ∃ m, n = m + 1 := ⟨n - 1, by omega⟩
 rw [show dgF (m + 1) (m + 1) = _ from by rw [dgF, if_neg h]]
 rw [dgF_more m ((m + 1) / 4294967296) _ (by omega) (by omega)]
theorem valN_dg : ∀ n, valN (dg n) = n := by
 intro n
 induction n using Nat.strongRecOn with
 | ind n ih =>
  by_cases h0 : n = 0
  ·subst h0
   rfl
  ·rw [dg_pos h0, valN, ih _ (by omega)]
   omega
theorem Wd_dg : ∀ n, Wd (dg n) := by
 intro n
 induction n using Nat.strongRecOn with
 | ind n ih =>
  by_cases h0 : n = 0
  ·subst h0
   intro x hx
   cases hx
  ·rw [dg_pos h0]
   intro x hx
   rcases List.mem_cons.1 hx with rfl | hx
   ·omega
   ·exact ih _ (by omega) x hx
theorem dg_canon : ∀ (xs : List Nat), Wd xs → (∀ h : xs ≠ [], xs.getLast h ≠ 0) → xs = dg (valN xs)
 | [], _, _ => rfl
 | x :: xs, hw, hl => by
  have hx : x < 4294967296 := hw x (by simp)
  have hw' : Wd xs := fun y hy => hw y (by simp [hy])
  have ih := dg_canon xs hw' (fun h => by
   have := hl (by simp)
   rwa [List.getLast_cons h] at this)
  have hne : valN (x :: xs) ≠ 0 := by
   rw [valN]
   intro h
   by_cases hxs : xs = []
   ·subst hxs
    have := hl (by simp)
    simp at this
    omega
   ·have h1 : valN xs = 0 := by omega
    rw [h1] at ih
    exact hxs ih
  rw [dg_pos hne, valN]
  rw [show (x + 4294967296 * valN xs) % 4294967296 = x by omega, show (x + 4294967296 * valN xs) / 4294967296 = valN xs by omega, ← ih]
theorem dg_last (n : Nat) (h : dg n ≠ []) : (dg n).getLast h ≠ 0 := by
 induction n using Nat.strongRecOn with
 | ind n ih =>
  by_cases h0 : n = 0
  ·subst h0
   exact absurd rfl h
  ·simp only [dg_pos h0]
   by_cases hd : dg (n / 4294967296) = []
   ·simp only [hd, List.getLast_singleton]
    have := valN_dg (n / 4294967296)
    rw [hd] at this
    simp [valN] at this
    omega
   ·rw [List.getLast_cons hd]
    exact ih _ (by omega) hd
theorem valN_append : ∀ (xs ys : List Nat), valN (xs ++ ys) = valN xs + 4294967296 ^ xs.length * valN ys
 | [], ys => by simp [valN]
 | x :: xs, ys => by
  simp only [List.cons_append, valN, valN_append xs ys, List.length_cons, Nat.pow_succ]
  grind
theorem valN_lt : ∀ (xs : List Nat), Wd xs → valN xs < 4294967296 ^ xs.length
 | [], _ => by simp [valN]
 | x :: xs, h => by
  have h1 := h x (by simp)
  have h2 := valN_lt xs (fun y hy => h y (by simp [hy]))
  simp only [valN, List.length_cons, Nat.pow_succ]
  omega
def nat (xs : List Nat) (j : Nat) : Nat := xs.getD j 0
def wlen (n : Nat) : Nat := (dg n).length
theorem nat_lt {xs : List Nat} (h : Wd xs) (j : Nat) : nat xs j < 4294967296 := by
 unfold nat
 rw [List.getD_eq_getElem?_getD]
 by_cases hj : j < xs.length
 ·rw [List.getElem?_eq_getElem hj]
  exact h _ (List.getElem_mem hj)
 ·rw [List.getElem?_eq_none (by omega)]
  simp
theorem Wd.append {xs ys : List Nat} (h : Wd xs) (h2 : Wd ys) : Wd (xs ++ ys) := fun x hx => by
 rcases List.mem_append.1 hx with hx | hx
 ·exact h x hx
 ·exact h2 x hx
theorem Wd.snoc {xs : List Nat} (h : Wd xs) {y : Nat} (hy : y < 4294967296) : Wd (xs ++ [y]) := h.append (fun x hx => by simp at hx; omega)
theorem Wd.take {xs : List Nat} (h : Wd xs) (n : Nat) : Wd (xs.take n) := fun x hx => h x (List.mem_of_mem_take hx)
theorem Wd.drop {xs : List Nat} (h : Wd xs) (n : Nat) : Wd (xs.drop n) := fun x hx => h x (List.mem_of_mem_drop hx)
theorem Wd.left {xs ys : List Nat} (h : Wd (xs ++ ys)) : Wd xs := fun x hx => h x (List.mem_append_left _ hx)
theorem Wd.right {xs ys : List Nat} (h : Wd (xs ++ ys)) : Wd ys := fun x hx => h x (List.mem_append_right _ hx)
theorem valN_zeros : ∀ n, valN (List.replicate n 0) = 0
 | 0 => rfl
 | n + 1 => by rw [List.replicate_succ, valN, valN_zeros n]
theorem nat_append_left {xs ys : List Nat} {j : Nat} (h : j < xs.length) : nat (xs ++ ys) j = nat xs j := by
 simp [nat, List.getD_eq_getElem?_getD, List.getElem?_append_left h]
theorem nat_append_right {xs ys : List Nat} {j : Nat} (h : xs.length ≤ j) : nat (xs ++ ys) j = nat ys (j - xs.length) := by
 simp [nat, List.getD_eq_getElem?_getD, List.getElem?_append_right h]
theorem nat_take {xs : List Nat} {n j : Nat} (h : j < n) : nat (xs.take n) j = nat xs j := by
 simp [nat, List.getD_eq_getElem?_getD, List.getElem?_take, h]
theorem nat_drop (xs : List Nat) (n j : Nat) : nat (xs.drop n) j = nat xs (n + j) := by
 simp [nat, List.getD_eq_getElem?_getD]
theorem take_succ_nat (xs : List Nat) (j : Nat) (h : j < xs.length) : xs.take (j + 1) = xs.take j ++ [nat xs j] := by
 rw [List.take_add_one, List.getElem?_eq_getElem h]
 simp [nat, List.getD_eq_getElem?_getD, List.getElem?_eq_getElem h]
theorem drop_nat (xs : List Nat) (j : Nat) (h : j < xs.length) : xs.drop j = nat xs j :: xs.drop (j + 1) := by
 rw [List.drop_eq_getElem_cons h]
 simp [nat, List.getD_eq_getElem?_getD, List.getElem?_eq_getElem h]
theorem valN_snoc (xs : List Nat) (y : Nat) : valN (xs ++ [y]) = valN xs + 4294967296 ^ xs.length * y := by
 rw [valN_append]
 simp [valN]
theorem valN_take_succ (xs : List Nat) (j : Nat) (h : j < xs.length) : valN (xs.take (j + 1)) = valN (xs.take j) + 4294967296 ^ j * nat xs j := by
 rw [take_succ_nat xs j h, valN_snoc, List.length_take, Nat.min_eq_left (by omega)]
theorem valN_drop (xs : List Nat) (j : Nat) (h : j < xs.length) : valN (xs.drop j) = nat xs j + 4294967296 * valN (xs.drop (j + 1)) := by
 rw [drop_nat xs j h, valN]
theorem valN_split (xs : List Nat) (j : Nat) (h : j ≤ xs.length) : valN xs = valN (xs.take j) + 4294967296 ^ j * valN (xs.drop j) := by
 conv => lhs; rw [← List.take_append_drop j xs]
 rw [valN_append, List.length_take, Nat.min_eq_left h]
theorem set_pass (d s : List Nat) (i x : Nat) (hd : d.length = i) (hi : i < s.length) : (d ++ s.drop i).set i x = (d ++ [x]) ++ s.drop (i + 1) := by
 subst hd
 rw [drop_nat s _ hi]
 simp
theorem nat_pass (d s : List Nat) (i : Nat) (hd : d.length = i) : nat (d ++ s.drop i) i = nat s i := by
 subst hd
 rw [nat_append_right (Nat.le_refl _), nat_drop]
 simp
theorem dg_len_le {n k : Nat} (h : n < 4294967296 ^ k) : (dg n).length ≤ k := by
 induction k generalizing n with
 | zero =>
  obtain rfl : n = 0 := by simp at h; omega
  simp [dg_zero]
 | succ k ih =>
  by_cases h0 : n = 0
  ·subst h0; simp [dg_zero]
  ·rw [dg_pos h0, List.length_cons]
   have := ih (n := n / 4294967296) (by rw [Nat.pow_succ] at h; omega)
   omega
theorem lt_dg_len (n : Nat) : n < 4294967296 ^ (dg n).length := by
 have := valN_lt _ (Wd_dg n)
 rwa [valN_dg] at this
theorem wlen_mono {m n : Nat} (h : m ≤ n) : wlen m ≤ wlen n := dg_len_le (Nat.lt_of_le_of_lt h (lt_dg_len n))
theorem wlen_zero : wlen 0 = 0 := rfl
theorem wlen_pos {n : Nat} : 0 < wlen n ↔ n ≠ 0 := by
 constructor
 ·rintro h rfl
  simp [wlen_zero] at h
 ·intro h
  unfold wlen
  rw [dg_pos h]
  simp
theorem dg_nil {n : Nat} : dg n = [] ↔ n = 0 := by
 constructor
 ·intro h
  have := valN_dg n
  rw [h] at this
  exact this.symm
 ·rintro rfl; rfl
theorem wlen_lower {n : Nat} (h : n ≠ 0) : 4294967296 ^ (wlen n - 1) ≤ n := by
 refine Nat.le_of_not_lt fun hlt => ?_
 have := dg_len_le hlt
 have h2 := (wlen_pos (n := n)).2 h
 unfold wlen at this h2
 omega
theorem dg_inj {m n : Nat} (h : dg m = dg n) : m = n := by rw [← valN_dg m, h, valN_dg]
theorem canon_take {xs : List Nat} (hw : Wd xs) {n : Nat} (hn : n ≤ xs.length) (hz : ∀ j, n ≤ j → j < xs.length → nat xs j = 0) (hl : n = 0 ∨ nat xs (n - 1) ≠ 0) : xs.take n = dg (valN xs) := by
 have h1 : valN (xs.drop n) = 0 := by
  have : xs.drop n = List.replicate (xs.drop n).length 0 := by
   refine List.eq_replicate_iff.2 ⟨rfl, fun x hx => ?_⟩
   obtain ⟨i, hi, rfl⟩ := List.mem_iff_getElem.1 hx
   rw [List.length_drop] at hi
   have := hz (n + i) (by omega) (by omega)
   simp only [nat, List.getD_eq_getElem?_getD, List.getElem?_eq_getElem (show n + i < xs.length by omega), Option.getD_some] at this
   simpa using this
  rw [this, valN_zeros]
 rw [valN_split xs n hn, h1, Nat.mul_zero, Nat.add_zero]
 refine dg_canon _ (hw.take n) fun h => ?_
 have hlen : (xs.take n).length = n := by rw [List.length_take, Nat.min_eq_left hn]
 have hpos : 0 < n := by
  rcases Nat.eq_zero_or_pos n with rfl | h'
  ·simp at h
  ·exact h'
 rw [List.getLast_eq_getElem]
 rcases hl with hl | hl
 ·omega
 ·simp only [nat, List.getD_eq_getElem?_getD, List.getElem?_eq_getElem (show n - 1 < xs.length by omega), Option.getD_some] at hl
  simpa [hlen] using hl
theorem dg_top (n : Nat) (h : n ≠ 0) : nat (dg n) ((dg n).length - 1) ≠ 0 := by
 have hne : dg n ≠ [] := fun e => h (dg_nil.1 e)
 have := dg_last n hne
 rw [List.getLast_eq_getElem] at this
 simpa [nat, List.getD_eq_getElem?_getD, List.getElem?_eq_getElem (show (dg n).length - 1 < (dg n).length by have := List.length_pos_iff.2 hne; omega)] using this
theorem canon {xs : List Nat} (hw : Wd xs) (h : xs.length = 0 ∨ nat xs (xs.length - 1) ≠ 0) : xs = dg (valN xs) := by
 have := canon_take hw (Nat.le_refl _) (fun j h1 h2 => by omega) h
 rwa [List.take_length] at this
def ints (xs : List Nat) : List Int := xs.map fun x : Nat => (x : Int)
theorem ints_length (xs : List Nat) : (ints xs).length = xs.length := by simp [ints]
theorem ints_append (xs ys : List Nat) : ints (xs ++ ys) = ints xs ++ ints ys := by simp [ints]
theorem ints_set (xs : List Nat) (i x : Nat) : (ints xs).set i (x : Int) = ints (xs.set i x) := by simp [ints, List.map_set]
theorem nth_ints (xs : List Nat) (j : Nat) : nth (ints xs) j = (nat xs j : Int) := by
 unfold nth nat ints
 rw [List.getD_eq_getElem?_getD, List.getD_eq_getElem?_getD, List.getElem?_map]
 cases xs[j]? <;> rfl
def Rd (w : World) (v : Value) (xs : List Nat) : Prop :=
 Wd xs ∧ ∃ A c, v = .slice A xs.length c ∧ xs.length ≤ c ∧ (0 < xs.length → ∃ g o, A = some ⟨g, o, none⟩ ∧ g < w.heap.size ∧ ∀ j, j < xs.length → w.cell? ⟨g, o + j, none⟩ = some (.int .u32 (nat xs j : Nat)))
def RN (w : World) (v : Value) (n : Nat) : Prop := Rd w v (dg n)
theorem Rd.move {w w1 : World} {v : Value} {xs : List Nat} (h : Rd w v xs) (hs : w.heap.size ≤ w1.heap.size) (hb : ∀ g, v.ownBlock = some g → g < w.heap.size → w1.heap[g]? = w.heap[g]?) : Rd w1 v xs := by
 obtain ⟨hw, A, c, rfl, hc, hr⟩ := h
 refine ⟨hw, A, c, rfl, hc, fun hp => ?_⟩
 obtain ⟨g, o, rfl, hg, hj⟩ := hr hp
 exact ⟨g, o, rfl, by omega, fun j hjl => (World.cell?_of_block (a := ⟨g, o + j, none⟩) (hb g rfl hg)).trans (hj j hjl)⟩
theorem Rd.below {w w1 : World} {v : Value} {xs : List Nat} (h : Rd w v xs) (hb : Below w.heap.size w w1) : Rd w1 v xs :=
 h.move hb.size fun g _ hg => hb.block g hg
theorem Rd.grown {w w1 : World} {v : Value} {xs : List Nat} (h : Rd w v xs) {row : Option Nat} (hg : w.grownBy w1 row) (hne : ∀ g, v.ownBlock = some g → some g ≠ row) : Rd w1 v xs :=
 h.move hg.size fun g he hl => hg.block g hl (hne g he)
theorem Rd.gb {w w1 : World} {v : Value} {xs : List Nat} (h : Rd w v xs) (hg : w.grownBy w1 none) : Rd w1 v xs := h.grown hg (by simp)
theorem Rd.nil (w : World) : Rd w (.slice none 0 0) [] := ⟨fun x hx => (by cases hx), none, 0, rfl, by simp, fun h => absurd h (by simp)⟩
theorem Rd.wd {w : World} {v : Value} {xs : List Nat} (h : Rd w v xs) : Wd xs := h.1
theorem Rd.of_arr {w : World} {B e : Nat} {xs : List Nat} (h : Arr .u32 w B e (ints xs)) (hw : Wd xs) : Rd w (.slice (some ⟨B, 0, none⟩) xs.length xs.length) xs :=
 ⟨hw, _, _, rfl, Nat.le_refl _, fun _ => ⟨B, 0, rfl, h.lt, fun j hj => by
  have h1 := h.cell j (by rw [ints_length]; exact hj)
  have h2 := nth_ints xs j
  unfold nth at h2
  rw [Nat.zero_add, h1, h2]⟩⟩
theorem Rd.take {w : World} {A : Option Addr} {c : Nat} {xs : List Nat} (h : Rd w (.slice A xs.length c) xs) (n : Nat) (hn : n ≤ xs.length) : Rd w (.slice A n n) (xs.take n) := by
 obtain ⟨hw, A', c', e, hc, hr⟩ := h
 injection e with e1 e2 e3
 subst e1
 have hl : (xs.take n).length = n := by rw [List.length_take, Nat.min_eq_left hn]
 refine ⟨hw.take n, A, n, by rw [hl], by rw [hl]; exact Nat.le_refl _, fun hp => ?_⟩
 rw [hl] at hp ⊢
 obtain ⟨g, o, rfl, hg, hj⟩ := hr (by omega)
 exact ⟨g, o, rfl, hg, fun j hjl => by rw [hj j (by omega), nat_take hjl]⟩
theorem Rd.cell {w : World} {A : Option Addr} {c : Nat} {xs : List Nat} (h : Rd w (.slice A xs.length c) xs) {j : Nat} (hj : j < xs.length) :
  ∃ g o, A = some ⟨g, o, none⟩ ∧ g < w.heap.size ∧ w.cell? ⟨g, o + j, none⟩ = some (.int .u32 (nat xs j : Nat)) := by
 obtain ⟨hw, A', c', e, hc, hr⟩ := h
 injection e with e1 e2 e3
 subst e1
 obtain ⟨g, o, rfl, hg, hcell⟩ := hr (by omega)
 exact ⟨g, o, rfl, hg, hcell j hj⟩
theorem Rd.slice {w : World} {v : Value} {xs : List Nat} (h : Rd w v xs) : ∃ A c, v = .slice A xs.length c ∧ xs.length ≤ c := by
 obtain ⟨_, A, c, rfl, hc, _⟩ := h
 exact ⟨A, c, rfl, hc⟩
theorem RN.opened {w : World} {v : Value} {n : Nat} (h : RN w v n) : ∃ A c xs, v = .slice A xs.length c ∧ xs.length ≤ c ∧ Hid (xs = dg n) ∧ Hid (Rd w (.slice A xs.length c) xs) := by
 obtain ⟨A, c, e, hc⟩ := Rd.slice h
 subst e
 exact ⟨A, c, dg n, rfl, hc, rfl, h⟩
def WPost (w : World) (n : Nat) (e : Ending) (w' : World) : Prop := ∃ v, e = .returned v ∧ RN w' v n ∧ Below w.heap.size w w'
theorem pw_drewN {B : Nat} {w W : World} (h : Below B w W) (n : Nat) : Below B w (W.drewN n) := ⟨h.os, h.tape, h.output, h.size, h.block⟩
def TrimPost (w : World) (A : Option Addr) (xs : List Nat) (e : Ending) (w' : World) : Prop := ∃ n, n ≤ xs.length ∧ e = .returned (.slice A n n) ∧ xs.take n = dg (valN xs) ∧ Below w.heap.size w w'
set_option maxHeartbeats 8000000 in
set_option maxRecDepth 100000 in
theorem trim_calls (w : World) (A : Option Addr) (c : Nat) (xs : List Nat) (h : Rd w (.slice A xs.length c) xs) (hl : xs.length ≤ 1000000000000) (hc : xs.length ≤ c) :
  Calls Tryd.prog 53 #[.slice A xs.length c] w fun e w' => TrimPost w A xs e w' := by
 have HR := Hd h
 clear h
 go_enter Tryd.func53, Tryd.ntmps53
 go_wp2
 go_loop [3] (fun v => ∃ n : Nat, n ≤ xs.length ∧ v = .int .i64 n ∧ ∀ j, n ≤ j → j < xs.length → nat xs j = 0) (fun v => (intOf v).toNat)
 case atStart => exact ⟨xs.length, Nat.le_refl _, rfl, fun j h1 h2 => by omega⟩
 case round =>
  obtain ⟨n, hn, rfl, hz⟩ := hrel
  have HZ := Hd hz
  clear hz
  by_cases hp : 0 < n
  ·obtain ⟨g, o, rfl, hg, hcell⟩ := HR.out.cell (j := n - 1) (by omega)
   have n1 : (n : Int) > 0 := by omega
   have n2 : ((n : Int) - 1).toNat = n - 1 := by omega
   have n3 : 0 ≤ (n : Int) - 1 := by omega
   have n4 : (n : Int) - 1 < (xs.length : Int) := by omega
   have nw : IntKind.i64.wrap ((n : Int) - 1) = (n : Int) - 1 := IntWalk.i64_in _ (by omega)
   by_cases hx : nat xs (n - 1) = 0
   ·rw [hx] at hcell
    have hcell0 : w.cell? ⟨g, o + (n - 1), none⟩ = some (.int .u32 0) := hcell
    clear hcell
    have hz0 : ((0 : Int) == 0) = true := rfl
    go_wp2_with fail
    go_round
    case rel =>
     refine ⟨n - 1, by omega, by rw [show ((n - 1 : Nat) : Int) = (n : Int) - 1 by omega], fun j h1 h2 => ?_⟩
     by_cases hj : j = n - 1
     ·rw [hj]; exact hx
     ·exact HZ.out j (by omega) h2
    case measure => simp [intOf]; omega
   ·have hz0 : ((nat xs (n - 1) : Int) == 0) = false := by
     have : (nat xs (n - 1) : Int) ≠ 0 := by omega
     simpa using this
    have hcap : (n : Int) ≤ (c : Int) := by omega
    go_wp2_with fail
    go_ret
    exact ⟨n, hn, rfl, canon_take HR.out.wd hn HZ.out (.inr hx), Below.refl _ _⟩
  ·obtain rfl : n = 0 := by omega
   go_wp2_with fail
   go_ret
   exact ⟨0, hn, rfl, canon_take HR.out.wd hn HZ.out (.inl rfl), Below.refl _ _⟩
theorem trim_rn {w : World} {A : Option Addr} {c : Nat} {xs : List Nat} (h : Rd w (.slice A xs.length c) xs) (hl : xs.length ≤ 1000000000000) :
  Calls Tryd.prog 53 #[.slice A xs.length c] w fun e w' => WPost w (valN xs) e w' := by
 have hc : xs.length ≤ c := by
  obtain ⟨A', c', e, hc⟩ := h.slice
  injection e with e1 e2 e3
  omega
 refine (trim_calls w A c xs h hl hc).mono ?_
 rintro e w' ⟨n, hn, rfl, ht, hb⟩
 refine ⟨_, rfl, ?_, hb⟩
 have := (h.take n hn).below hb
 rw [ht] at this
 exact this
theorem info103 : (Tryd.prog.info? 44).map (fun i => (i.zero, i.size, i.bytes)) = some (some (.int .u32 0), 1, 4) := by kernel_rfl
theorem made_zeros (n : Nat) : madeCells (Value.int .u32 0).cells (n * 1) = (nums .u32 (ints (List.replicate n 0))).toArray := by
 apply Array.ext
 ·simp [size_madeCells, nums, ints]
 ·intro i h1 h2
  have h0 : (Value.int .u32 0).cells.size = 1 := rfl
  simp only [madeCells, nums, ints, h0, Nat.mod_one, List.map_replicate, Array.getElem_map, List.getElem_toArray, List.getElem_replicate]
  rfl
def zw (n : Nat) : Obj := .cells (nums .u32 (ints (List.replicate n 0))).toArray 44
theorem make_words (t : TypeId) (ht : Tryd.prog.underlying t = some (.slice 44)) (n : Nat) (hn : n ≤ 10000000000000) (w : World) :
  Sem.run Tryd.prog (Instr.makeSlice t (.int .i64 (n : Int)) (.int .i64 (n : Int))) w = .ok (.slice (some ⟨w.heap.size, 0, none⟩) n n) (w.alloc (zw n)) := by
 obtain ⟨i, hi, hzz⟩ := Option.map_eq_some_iff.1 info103
 simp only [Prod.mk.injEq] at hzz
 obtain ⟨hz, hsz, hby⟩ := hzz
 have := run_make (P := Tryd.prog) w t 44 i _ ht hi hz .i64 .i64 (n : Int) (n : Int) (by omega) (Int.le_refl _) (by rw [hby]; omega) (by omega)
 rw [hsz, Int.toNat_natCast, made_zeros] at this
 exact this
theorem zw_arr (w : World) (n : Nat) : Arr .u32 (w.alloc (zw n)) w.heap.size 44 (ints (List.replicate n 0)) := by
 show (World.alloc _ _).heap[w.heap.size]? = _
 rw [heap_alloc_new]; rfl
theorem info103_size : (Tryd.prog.info? 44).map (·.size) = some 1 := by kernel_rfl
theorem nums_oneCell (k : IntKind) (l : List Int) : ∀ v ∈ nums k l, v.oneCell' = true := fun v hv => by
 obtain ⟨x, _, rfl⟩ := List.mem_map.1 hv
 rfl
def OwnPost (w : World) (xs : List Nat) (e : Ending) (w' : World) : Prop := ∃ v, e = .returned v ∧ Rd w' v xs ∧ Below w.heap.size w w'
theorem setRow_arr {w : World} {k : IntKind} {B e : Nat} {ws : List Int} (h : Arr k w B e ws) (xs : List Int) : Arr k (w.setRow B (nums k xs).toArray) B e xs := by
 show (w.setRow B (nums k xs).toArray).heap[B]? = _
 have h' : w.heap[B]? = some (.cells (nums k ws).toArray e (0, 0)) := h
 simp only [World.setRow, Array.getElem?_modify, if_true, h', Option.map_some]
theorem below_row {B g : Nat} {w0 w : World} (hb : Below B w0 w) (hBg : B ≤ g) (cs : Array Value) : Below B w0 (w.setRow g cs) :=
 hb.trans ⟨rfl, rfl, rfl, by simp [World.setRow], fun k hk => by
  simp only [World.setRow, Array.getElem?_modify]
  rw [if_neg (by omega)]⟩
theorem copy_words (t : TypeId) (ht : Tryd.prog.underlying t = some (.slice 44)) (w : World) (A : Option Addr) (c : Nat) (xs : List Nat) (h : Rd w (.slice A xs.length c) xs) :
  ∃ w2, Sem.run Tryd.prog (Builtin.copy_ #[t, t] 3 #[.slice (some ⟨w.heap.size, 0, none⟩) xs.length xs.length, .slice A xs.length c]) (w.alloc (zw xs.length)) = .ok (goInt xs.length) w2 ∧
   Arr .u32 w2 w.heap.size 44 (ints xs) ∧ Below w.heap.size w w2 := by
 obtain ⟨hw, A', c', e, hc, hcell⟩ := h
 injection e with e1 e2 e3
 subst e1
 have hb := Below.alloc (Below.refl w.heap.size w) (Nat.le_refl _) (zw xs.length)
 have harr := zw_arr w xs.length
 by_cases h0 : xs.length = 0
 ·obtain rfl : xs = [] := List.eq_nil_of_length_eq_zero h0
  refine ⟨_, run_copy_none (P := Tryd.prog) _ t t 3 44 _ _ _ _ _ _ ht info103_size rfl, harr, hb⟩
 ·obtain ⟨g, o, rfl, hg, hj⟩ := hcell (by omega)
  have hr := run_copy_row (P := Tryd.prog) (w.alloc (zw xs.length)) t t 3 44 w.heap.size 0 xs.length xs.length ⟨g, o, none⟩ xs.length c (nums .u32 (ints (List.replicate xs.length 0))).toArray 44 (nums .u32 (ints xs)) ht info103_size harr
   (by simp [nums, ints]) (fun j v hv => by
    have hjl : j < xs.length := by
     have := (List.getElem?_eq_some_iff.1 hv).1
     simpa [nums, ints] using this
    rw [nums_at .u32 _ j (by rw [ints_length]; exact hjl), nth_ints] at hv
    rw [add_at', ← Option.some.inj hv, ← hj j hjl]
    exact World.cell?_of_block (a := ⟨g, o + j, none⟩) (hb.block g hg)) (by simp [nums, ints]) (nums_oneCell _ _)
  have el : ((nums .u32 (ints xs)).length : Int) = xs.length := by simp [nums, ints]
  refine ⟨_, by rw [el] at hr; exact hr, ?_, below_row hb (Nat.le_refl _) _⟩
  have : (((nums .u32 (ints (List.replicate xs.length 0))).toArray.toList.take 0 ++ nums .u32 (ints xs) ++ (nums .u32 (ints (List.replicate xs.length 0))).toArray.toList.drop (0 + (nums .u32 (ints xs)).length)).toArray) = (nums .u32 (ints xs)).toArray := by
   simp [nums, ints]
  rw [this]
  exact setRow_arr harr _
set_option maxHeartbeats 8000000 in
set_option maxRecDepth 100000 in
theorem own_calls (w : World) (v : Value) (xs : List Nat) (h : Rd w v xs) (hl : xs.length ≤ 1000000000000) :
  Calls Tryd.prog 71 #[v] w fun e w' => OwnPost w xs e w' := by
 obtain ⟨A, c, rfl, hc⟩ := h.slice
 have hmk := make_words 55 Tryd.underlying55 xs.length (by omega)
 obtain ⟨w2, hcp, harr, hb⟩ := copy_words 55 Tryd.underlying55 w A c xs h
 have HA := Hd harr
 have HB := Hd hb
 have HW := Hd h.wd
 clear harr hb h
 go_enter Tryd.func71, Tryd.ntmps71
 go_wp2
 go_ret
 exact ⟨_, rfl, Rd.of_arr HA.out HW.out, HB.out⟩
set_option maxHeartbeats 8000000 in
set_option maxRecDepth 100000 in
theorem one_calls (w : World) (v : Value) (n : Nat) (h : RN w v n) :
  Calls Tryd.prog 31 #[v] w fun e w' => e = .returned (.bool (decide (n = 1))) ∧ Below w.heap.size w w' := by
 obtain ⟨A, c, xs, rfl, hc, HX, HR⟩ := h.opened
 clear h
 go_enter Tryd.func31, Tryd.ntmps31
 by_cases hl : xs.length = 1
 ·obtain ⟨g, o, rfl, hg, hcell⟩ := HR.out.cell (j := 0) (by omega)
  rw [Nat.add_zero] at hcell
  have l1 : ((xs.length : Int) == 1) = true := by rw [hl]; rfl
  have l2 : (0 : Int) < (xs.length : Int) := by omega
  have l3 : (0 : Nat) < xs.length := by omega
  go_wp2_with fail
  go_ret
  refine ⟨?_, Below.refl _ _⟩
  have h1 := valN_dg n
  rw [← HX.out] at h1
  match xs, hl with
  | [x], _ =>
   simp only [valN] at h1
   simp only [nat, List.getD_cons_zero]
   show Ending.returned (.bool ((x : Int) == 1)) = _
   congr 2
   rw [Bool.eq_iff_iff]
   simp
   omega
 ·have l1 : ((xs.length : Int) == 1) = false := by
   have : (xs.length : Int) ≠ 1 := by omega
   simpa using this
  go_wp2_with fail
  go_ret
  refine ⟨?_, Below.refl _ _⟩
  have : n ≠ 1 := by
   rintro rfl
   rw [HX.out] at hl
   exact hl rfl
  rw [decide_eq_false this]
  rfl
theorem or_word (n b : Nat) (h1 : n < 4294967296) (hb1 : b < 4294967296) : bits .or .u64 ((n : Int) * 4294967296) (b : Int) = ((n * 4294967296 + b : Nat) : Int) := by
 have := bits_join .u64 64 (by decide) (fun n h0 h1 => IntWalk.u64_in n (by omega)) 32 ((n : Int) * 4294967296) (b : Int) (by omega) (by omega) (by omega) (by omega) (by omega) (by omega)
 rw [this]
 omega
theorem rd_two (w : World) (a b : Nat) (ha : a < 4294967296) (hb : b < 4294967296) : Rd (w.alloc (.cells #[.int .u32 (a : Nat), .int .u32 (b : Nat)] 44)) (.slice (some ⟨w.heap.size, 0, none⟩) 2 2) [a, b] :=
 Rd.of_arr (xs := [a, b]) (e := 44) (by show (World.alloc _ _).heap[w.heap.size]? = _; rw [heap_alloc_new]; rfl) (fun x hx => by simp at hx; omega)
theorem dg_len_two {n : Nat} : (dg n).length ≤ 2 ↔ n < 18446744073709551616 := by
 constructor
 ·intro h
  have h1 := lt_dg_len n
  have h2 : 4294967296 ^ (dg n).length ≤ 4294967296 ^ 2 := Nat.pow_le_pow_right (by decide) h
  omega
 ·intro h
  exact dg_len_le (k := 2) (by omega)
set_option maxHeartbeats 8000000 in
set_option maxRecDepth 100000 in
theorem of_calls (w : World) (n : Nat) (hn : n < 18446744073709551616) :
  Calls Tryd.prog 52 #[.int .u64 n] w fun e w' => WPost w n e w' := by
 have c1 : IntKind.u32.wrap (n : Int) = ((n % 4294967296 : Nat) : Int) := by rw [IntKind.wrap_u32]; omega
 have c2 : IntKind.u32.wrap ((n : Int) / 4294967296) = ((n / 4294967296 : Nat) : Int) := by rw [IntKind.wrap_u32]; omega
 go_enter Tryd.func52, Tryd.ntmps52
 go_wp2_with fail
 have hr := rd_two w (n % 4294967296) (n / 4294967296) (by omega) (by omega)
 have e1 : ((n % 4294967296 : Nat) : Int) = (n : Int) % 4294967296 := by omega
 have e2 : ((n / 4294967296 : Nat) : Int) = (n : Int) / 4294967296 := by omega
 rw [e1, e2] at hr
 refine (trim_rn hr (by simp)).mono ?_
 rintro e w' ⟨v, rfl, hv, hb⟩
 have hval : valN [n % 4294967296, n / 4294967296] = n := by simp only [valN]; omega
 rw [hval] at hv
 go_wp2_with fail
 go_ret
 exact ⟨_, rfl, hv, (Below.alloc (Below.refl _ _) (Nat.le_refl _) _).trans (hb.mono (by simp))⟩
theorem val_two {xs : List Nat} (h : xs.length = 2) : valN xs = nat xs 1 * 4294967296 + nat xs 0 := by
 match xs, h with
 | [x, y], _ => simp [nat, valN]; omega
def SmallPost (w : World) (n : Nat) (e : Ending) (w' : World) : Prop := (∃ x : Nat, e = .returned (.tuple #[.int .u64 x, .bool (decide (n < 18446744073709551616))]) ∧ (n < 18446744073709551616 → x = n)) ∧ Below w.heap.size w w'
set_option maxHeartbeats 8000000 in
set_option maxRecDepth 100000 in
theorem small_calls (w : World) (v : Value) (n : Nat) (h : RN w v n) :
  Calls Tryd.prog 62 #[v] w fun e w' => SmallPost w n e w' := by
 obtain ⟨A, c, xs, rfl, hc, HX, HR⟩ := h.opened
 clear h
 have hv : valN xs = n := by rw [HX.out, valN_dg]
 have hlt : xs.length ≤ 2 ↔ n < 18446744073709551616 := by rw [HX.out]; exact dg_len_two
 have HV := Hd hv
 have HLT := Hd hlt
 clear hv hlt
 go_enter Tryd.func62, Tryd.ntmps62
 by_cases l0 : xs.length = 0
 ·have q0 : ((xs.length : Int) == 0) = true := by rw [l0]; rfl
  go_wp2_with fail
  go_ret2
  have : n = 0 := by rw [← HV.out, List.eq_nil_of_length_eq_zero l0]; rfl
  refine ⟨⟨0, ?_, fun _ => this.symm⟩, Below.refl _ _⟩
  rw [decide_eq_true (HLT.out.1 (by omega))]
  rfl
 ·have q0 : ((xs.length : Int) == 0) = false := by
   have : (xs.length : Int) ≠ 0 := by omega
   simpa using this
  obtain ⟨g, o, rfl, hg, hcell⟩ := HR.out.cell (j := 0) (by omega)
  rw [Nat.add_zero] at hcell
  by_cases l1 : xs.length = 1
  ·have q1 : ((xs.length : Int) == 1) = true := by rw [l1]; rfl
   have l2 : (0 : Int) < (xs.length : Int) := by omega
   have l3 : (0 : Nat) < xs.length := by omega
   have hx := nat_lt HR.out.wd 0
   have cw : IntKind.u64.wrap (nat xs 0 : Int) = (nat xs 0 : Int) := IntWalk.u64_in _ (by omega)
   go_wp2_with fail
   go_ret2
   refine ⟨⟨nat xs 0, ?_, fun _ => ?_⟩, Below.refl _ _⟩
   ·rw [decide_eq_true (HLT.out.1 (by omega))]
    rfl
   ·rw [← HV.out]
    match xs, l1 with
    | [x], _ => simp [nat, valN]
  ·have q1 : ((xs.length : Int) == 1) = false := by
    have : (xs.length : Int) ≠ 1 := by omega
    simpa using this
   by_cases l2 : xs.length = 2
   ·have q2 : ((xs.length : Int) == 2) = true := by rw [l2]; rfl
    obtain ⟨g', o', e', hg', hcell1⟩ := HR.out.cell (j := 1) (by omega)
    injection e' with e'
    injection e' with e1 e2
    subst e1
    subst e2
    have l3 : (1 : Int) < (xs.length : Int) := by omega
    have l4 : (1 : Nat) < xs.length := by omega
    have l5 : (0 : Int) < (xs.length : Int) := by omega
    have l6 : (0 : Nat) < xs.length := by omega
    have hx := nat_lt HR.out.wd 0
    have hx1 := nat_lt HR.out.wd 1
    have cw : IntKind.u64.wrap (nat xs 0 : Int) = (nat xs 0 : Int) := IntWalk.u64_in _ (by omega)
    have cw1 : IntKind.u64.wrap (nat xs 1 : Int) = (nat xs 1 : Int) := IntWalk.u64_in _ (by omega)
    have cw2 : IntKind.u64.wrap ((nat xs 1 : Int) * 4294967296) = (nat xs 1 : Int) * 4294967296 := IntWalk.u64_in _ (by omega)
    have hor := or_word (nat xs 1) (nat xs 0) hx1 hx
    obtain ⟨z, hz⟩ : ∃ z, z = nat xs 1 * 4294967296 + nat xs 0 := ⟨_, rfl⟩
    rw [← hz] at hor
    have HZ := Hd hz
    clear hz
    go_wp2_with fail
    go_quiet (fail)
    go_wp2_with fail
    go_ret2
    refine ⟨⟨z, ?_, fun _ => ?_⟩, pw_drewN (Below.refl _ _) _⟩
    ·rw [decide_eq_true (HLT.out.1 (by omega))]
     rfl
    ·rw [← HV.out, HZ.out, val_two l2]
   ·have q2 : ((xs.length : Int) == 2) = false := by
     have : (xs.length : Int) ≠ 2 := by omega
     simpa using this
    go_wp2_with fail
    go_ret2
    refine ⟨⟨0, ?_, fun h => ?_⟩, Below.refl _ _⟩
    ·rw [decide_eq_false (fun h => by have := HLT.out.2 h; omega)]
     rfl
    ·have := HLT.out.2 h
     omega
def cmpI (m n : Nat) : Int := if m = n then 0 else if m < n then -1 else 1
theorem cmp_top {a b : List Nat} (ha : Wd a) (hb : Wd b) (hl : a.length = b.length) (i : Nat) (hi : i < a.length) (he : ∀ j, i < j → j < a.length → nat a j = nat b j) (h : nat a i < nat b i) : valN a < valN b := by
 rw [valN_split a (i + 1) (by omega), valN_split b (i + 1) (by omega)]
 have e : a.drop (i + 1) = b.drop (i + 1) := by
  apply List.ext_getElem
  ·simp [hl]
  ·intro j h1 h2
   simp only [List.length_drop] at h1 h2
   have := he (i + 1 + j) (by omega) (by omega)
   simpa [nat, List.getD_eq_getElem?_getD, List.getElem?_eq_getElem (show i + 1 + j < a.length by omega), List.getElem?_eq_getElem (show i + 1 + j < b.length by omega)] using this
 rw [e, valN_take_succ a i hi, valN_take_succ b i (by omega)]
 have h1 := valN_lt (a.take i) (ha.take i)
 rw [List.length_take, Nat.min_eq_left (by omega)] at h1
 have h2 : 4294967296 ^ i * (nat a i + 1) ≤ 4294967296 ^ i * nat b i := Nat.mul_le_mul_left _ h
 rw [Nat.mul_add, Nat.mul_one] at h2
 omega
theorem valN_lt_len {m n : Nat} (h : (dg m).length < (dg n).length) : m < n := by
 refine Nat.lt_of_not_le fun hle => ?_
 have := wlen_mono hle
 unfold wlen at this
 omega
set_option maxHeartbeats 8000000 in
set_option maxRecDepth 100000 in
theorem cmp_calls (w : World) (v v2 : Value) (m n : Nat) (h : RN w v m) (h2 : RN w v2 n) (hm : wlen m ≤ 1000000000000) (hn : wlen n ≤ 1000000000000) :
  Calls Tryd.prog 70 #[v, v2] w fun e w' => e = .returned (.int .i64 (cmpI m n)) ∧ Below w.heap.size w w' := by
 obtain ⟨A, c, xs, rfl, hc, HX, HR⟩ := h.opened
 obtain ⟨A2, c2, ys, rfl, hc2, HY, HR2⟩ := h2.opened
 clear h h2
 have hlx : xs.length ≤ 1000000000000 := by rw [HX.out]; exact hm
 have hly : ys.length ≤ 1000000000000 := by rw [HY.out]; exact hn
 have HVX : Hid (valN xs = m) := by unfold Hid; rw [HX.out, valN_dg]
 have HVY : Hid (valN ys = n) := by unfold Hid; rw [HY.out, valN_dg]
 go_enter Tryd.func70, Tryd.ntmps70
 by_cases hne : xs.length = ys.length
 ·have t0 : ((xs.length : Int) != (ys.length : Int)) = false := by rw [hne]; simp
  go_wp2_with fail
  go_loopw [5] (fun vi wr => ∃ k : Nat, k ≤ xs.length ∧ vi = .int .i64 ((k : Int) - 1) ∧ Below w.heap.size w wr ∧ ∀ j, k ≤ j → j < xs.length → nat xs j = nat ys j) (fun vi _ => (intOf vi + 1).toNat)
  case atStart => exact ⟨xs.length, Nat.le_refl _, by go_num, Below.refl _ _, fun j h1 h2 => by omega⟩
  case round =>
   obtain ⟨k, hk, rfl, hbr, heq⟩ := hrel
   have HE := Hd heq
   have HB := Hd hbr
   clear heq
   by_cases h0 : 0 < k
   ·have HRr := Hd (HR.out.below hbr)
    have HRr2 := Hd (HR2.out.below hbr)
    clear hbr
    obtain ⟨g, o, rfl, hg, hcell⟩ := HRr.out.cell (j := k - 1) (by omega)
    obtain ⟨g2, o2, rfl, hg2, hcell2⟩ := HRr2.out.cell (j := k - 1) (by omega)
    have n1 : (k : Int) - 1 ≥ 0 := by omega
    have n2 : ((k : Int) - 1).toNat = k - 1 := by omega
    have n4 : (k : Int) - 1 < (xs.length : Int) := by omega
    have n5 : (k : Int) - 1 < (ys.length : Int) := by omega
    obtain ⟨x, hx⟩ : ∃ x, x = nat xs (k - 1) := ⟨_, rfl⟩
    obtain ⟨y, hy⟩ : ∃ y, y = nat ys (k - 1) := ⟨_, rfl⟩
    rw [← hx] at hcell
    rw [← hy] at hcell2
    have HXX := Hd hx
    have HYY := Hd hy
    clear hx hy
    by_cases hxy : x = y
    ·have t1 : ((x : Int) != (y : Int)) = false := by rw [hxy]; simp
     have nw : IntKind.i64.wrap ((k : Int) - 1 - 1) = (k : Int) - 1 - 1 := IntWalk.i64_in _ (by omega)
     go_wp2_with fail
     go_quiet (fail)
     go_wp2_with fail
     go_roundw
     case rel =>
      refine ⟨k - 1, by omega, by go_num, pw_drewN HB.out _, fun j h1 h2 => ?_⟩
      by_cases hj : j = k - 1
      ·rw [hj, ← HXX.out, ← HYY.out, hxy]
      ·exact HE.out j (by omega) h2
     case measure => simp [intOf]; omega
    ·have t1 : ((x : Int) != (y : Int)) = true := by
      have : (x : Int) ≠ (y : Int) := by omega
      simpa using this
     by_cases hlt : x < y
     ·have t2 : decide ((x : Int) < (y : Int)) = true := decide_eq_true (by omega)
      go_wp2_with fail
      go_quiet (fail)
      go_wp2_with fail
      go_quiet (fail)
      go_wp2_with fail
      go_ret
      refine ⟨?_, pw_drewN (pw_drewN HB.out _) _⟩
      have : m < n := by
       rw [← HVX.out, ← HVY.out]
       exact cmp_top HR.out.wd HR2.out.wd hne (k - 1) (by omega) (fun j h1 h2 => HE.out j (by omega) h2) (by rw [← HXX.out, ← HYY.out]; exact hlt)
      rw [show cmpI m n = -1 by unfold cmpI; rw [if_neg (by omega), if_pos this]]
      rfl
     ·have t2 : decide ((x : Int) < (y : Int)) = false := decide_eq_false (by omega)
      go_wp2_with fail
      go_quiet (fail)
      go_wp2_with fail
      go_quiet (fail)
      go_wp2_with fail
      go_ret
      refine ⟨?_, pw_drewN (pw_drewN HB.out _) _⟩
      have : n < m := by
       rw [← HVX.out, ← HVY.out]
       exact cmp_top HR2.out.wd HR.out.wd hne.symm (k - 1) (by omega) (fun j h1 h2 => (HE.out j (by omega) (by omega)).symm) (by rw [← HXX.out, ← HYY.out]; omega)
      rw [show cmpI m n = 1 by unfold cmpI; rw [if_neg (by omega), if_neg (by omega)]]
      rfl
   ·obtain rfl : k = 0 := by omega
    go_wp2_with fail
    go_ret
    refine ⟨?_, HB.out⟩
    have : m = n := by
     rw [← HVX.out, ← HVY.out]
     congr 1
     apply List.ext_getElem hne
     intro j h1 h2
     have := HE.out j (by omega) h1
     simpa [nat, List.getD_eq_getElem?_getD, List.getElem?_eq_getElem h1, List.getElem?_eq_getElem h2] using this
    rw [show cmpI m n = 0 by unfold cmpI; rw [if_pos this]]
    rfl
 ·have t0 : ((xs.length : Int) != (ys.length : Int)) = true := by
   have : (xs.length : Int) ≠ (ys.length : Int) := by omega
   simpa using this
  by_cases hlt : xs.length < ys.length
  ·have t1 : (xs.length : Int) < (ys.length : Int) := by omega
   go_wp2_with fail
   go_ret
   refine ⟨?_, Below.refl _ _⟩
   have : m < n := valN_lt_len (by rw [← HX.out, ← HY.out]; exact hlt)
   rw [show cmpI m n = -1 by unfold cmpI; rw [if_neg (by omega), if_pos this]]
   rfl
  ·have t1 : ¬ (xs.length : Int) < (ys.length : Int) := by omega
   go_wp2_with fail
   go_ret
   refine ⟨?_, Below.refl _ _⟩
   have : n < m := valN_lt_len (by rw [← HX.out, ← HY.out]; omega)
   rw [show cmpI m n = 1 by unfold cmpI; rw [if_neg (by omega), if_neg (by omega)]]
   rfl
theorem split_word (s : Nat) : ∃ lo hi, s = lo + 4294967296 * hi ∧ lo < 4294967296 := ⟨s % 4294967296, s / 4294967296, by omega, by omega⟩
theorem add_step {a b c lo hi p o : Nat} {x y : Nat} (h : o + c * p = a + b) (hs : x + c + y = lo + 4294967296 * hi) : o + p * lo + hi * (p * 4294967296) = (a + p * x) + (b + p * y) := by
 grind
theorem mask_word {n : Nat} (h : n < 4294967296) : bits .and .u64 (n : Int) 4294967295 = (n : Int) := by
 have := bits_mask .u64 64 (by decide) (fun n h0 h1 => IntWalk.u64_in n (by omega)) 32 (by decide) (n : Int) (by omega) (by omega)
 rw [show (4294967295 : Int) = 2 ^ 32 - 1 by decide, this]
 omega
theorem set_mid (P M Z : List Nat) (k v : Nat) (hk : k < M.length) : (P ++ M ++ Z).set (P.length + k) v = P ++ M.set k v ++ Z := by
 rw [List.append_assoc, List.set_append_right _ _ (by omega), Nat.add_sub_cancel_left, List.set_append_left _ _ hk, List.append_assoc]
theorem nat_mid (P M Z : List Nat) (k : Nat) (hk : k < M.length) : nat (P ++ M ++ Z) (P.length + k) = nat M k := by
 rw [List.append_assoc, nat_append_right (by omega), Nat.add_sub_cancel_left, nat_append_left hk]
theorem mul_le_word {x y : Nat} (hx : x < 4294967296) (hy : y < 4294967296) : x * y ≤ 18446744065119617025 := by
 have := Nat.mul_le_mul (show x ≤ 4294967295 by omega) (show y ≤ 4294967295 by omega)
 simpa using this
theorem mul_wrap {x y p : Nat} (hx : x < 4294967296) (hy : y < 4294967296) (hp : p = x * y) : IntKind.u64.wrap ((x : Int) * (y : Int)) = (p : Int) := by
 have h := mul_le_word hx hy
 have e : (x : Int) * (y : Int) = (p : Int) := by rw [hp]; push_cast; rfl
 rw [e, IntWalk.u64_in _ (by omega)]
theorem short_step {z d : Nat} (hd : 0 < d) (hz : z < d * 4294967296) : ∃ qq rr, (z / d = qq ∧ z % d = rr) ∧ rr < d ∧ qq < 4294967296 :=
 ⟨_, _, ⟨rfl, rfl⟩, Nat.mod_lt _ hd, Nat.div_lt_of_lt_mul hz⟩
def ShortPost (w : World) (m d : Nat) (e : Ending) (w' : World) : Prop := ∃ v, e = .returned (.tuple #[v, .int .u32 ((m % d : Nat) : Int)]) ∧ RN w' v (m / d) ∧ Below w.heap.size w w'
set_option maxHeartbeats 8000000 in
set_option maxRecDepth 100000 in
theorem short_calls (w : World) (v : Value) (m d : Nat) (h : RN w v m) (hm : wlen m ≤ 100000000000) (hd : 0 < d) (hd2 : d < 4294967296) :
  Calls Tryd.prog 40 #[v, .int .u32 d] w fun e w' => ShortPost w m d e w' := by
 obtain ⟨A, c, xs, rfl, hc, HX, HR⟩ := h.opened
 clear h
 have hlx : xs.length ≤ 100000000000 := by rw [HX.out]; exact hm
 have HVX : Hid (valN xs = m) := by unfold Hid; rw [HX.out, valN_dg]
 clear HX hm
 go_enter Tryd.func40, Tryd.ntmps40
 have hmk := make_words 55 Tryd.underlying55 xs.length (by omega)
 go_wp2_with fail
 clear hmk
 have hw0 := gb_alloc (gb_refl w none) (zw xs.length)
 have ha0 := zw_arr w xs.length
 generalize w.alloc (zw xs.length) = W0 at *
 go_loopw [7, 8] (fun vr vi wr => ∃ (k rest : Nat) (q : List Nat), k ≤ xs.length ∧ vi = .int .i64 ((k : Int) - 1) ∧ vr = .int .u64 (rest : Int) ∧ rest < d ∧ q.length = xs.length - k ∧ Wd q ∧
   valN (xs.drop k) = d * valN q + rest ∧ Arr .u32 wr w.heap.size 44 (ints (List.replicate k 0 ++ q)) ∧ w.grownBy wr none) (fun _ vi _ => (intOf vi + 1).toNat)
 case atStart => exact ⟨xs.length, 0, [], Nat.le_refl _, by go_num, rfl, hd, by simp, (fun x hx => (by cases hx)), by simp [valN], by rw [List.append_nil]; exact ha0, hw0⟩
 case round =>
  obtain ⟨k, rest, q, hk, rfl, rfl, hrest, hql, hqw, hval, harr, hgb⟩ := hrel
  have HD := Hd hqw
  have HV := Hd hval
  have HA := Hd harr
  have HG := Hd hgb
  have HL := Hd hql
  clear hqw hval harr hql
  by_cases h0 : 0 < k
  ·have HRr := Hd (HR.out.gb hgb)
   clear hgb
   obtain ⟨g, o, rfl, hg, hcell⟩ := HRr.out.cell (j := k - 1) (by omega)
   have n1 : (k : Int) - 1 ≥ 0 := by omega
   have n2 : ((k : Int) - 1).toNat = k - 1 := by omega
   have n4 : (k : Int) - 1 < (xs.length : Int) := by omega
   have hx := nat_lt HR.out.wd (k - 1)
   obtain ⟨x, hxx⟩ : ∃ x, x = nat xs (k - 1) := ⟨_, rfl⟩
   rw [← hxx] at hx hcell
   have HXX := Hd hxx
   clear hxx
   have hlen : (ints (List.replicate k 0 ++ q)).length = xs.length := by rw [ints_length]; simp [HL.out]; omega
   have hco := HA.out.cell (k - 1) (by rw [hlen]; omega)
   have hfr := HA.out.frozen (k - 1)
   obtain ⟨old, hold⟩ : ∃ old, old = (ints (List.replicate k 0 ++ q)).getD (k - 1) 0 := ⟨_, rfl⟩
   rw [← hold] at hco
   clear hold
   have f0 : IntKind.u64.wrap (x : Int) = (x : Int) := IntWalk.u64_in _ (by omega)
   have f1 : IntKind.u64.wrap (d : Int) = (d : Int) := IntWalk.u64_in _ (by omega)
   have f2 : IntKind.u64.wrap ((rest : Int) * 4294967296) = (rest : Int) * 4294967296 := IntWalk.u64_in _ (by omega)
   have hor := or_word rest x (by omega) hx
   obtain ⟨z, hz⟩ : ∃ z, z = rest * 4294967296 + x := ⟨_, rfl⟩
   rw [← hz] at hor
   obtain ⟨qq, rr, hqr, hrr, hqq⟩ := short_step hd (show z < d * 4294967296 by have := Nat.mul_le_mul_right 4294967296 (show rest + 1 ≤ d by omega); omega)
   have hz64 : z < 18446744073709551616 := by omega
   have g1 : (z : Int) / (d : Int) = (qq : Int) := by rw [← Int.natCast_ediv, hqr.1]
   have g2 : (z : Int) % (d : Int) = (rr : Int) := by rw [← Int.natCast_emod, hqr.2]
   have g3 : (z : Int).tdiv (d : Int) = (qq : Int) := by rw [Int.tdiv_eq_ediv_of_nonneg (by omega), g1]
   have g4 : (z : Int).tmod (d : Int) = (rr : Int) := by rw [Int.tmod_eq_emod_of_nonneg (by omega), g2]
   have hqr2 : z = d * qq + rr := by rw [← hqr.1, ← hqr.2]; exact (Nat.div_add_mod z d).symm
   have f3 : IntKind.u64.wrap (qq : Int) = (qq : Int) := IntWalk.u64_in _ (by omega)
   have f4 : IntKind.u64.wrap (rr : Int) = (rr : Int) := IntWalk.u64_in _ (by omega)
   have f5 : IntKind.u32.wrap (qq : Int) = (qq : Int) := by rw [IntKind.wrap_u32]; omega
   have d0 : ((d : Int) == 0) = false := by
    have : (d : Int) ≠ 0 := by omega
    simpa using this
   have d1 : (d : Int) ≠ 0 := by omega
   have nw : IntKind.i64.wrap ((k : Int) - 1 - 1) = (k : Int) - 1 - 1 := IntWalk.i64_in _ (by omega)
   have HZ := Hd hz
   have HQR := Hd hqr2
   clear hz hqr hqr2
   go_wp2_with fail
   go_roundw
   case rel =>
    refine ⟨k - 1, rr, qq :: q, by omega, by go_num, rfl, hrr, by rw [List.length_cons, HL.out]; omega, ?_, ?_, ?_, gb_set HG.out (.inl (Nat.le_refl _)) _⟩
    ·intro y hy
     rcases List.mem_cons.1 hy with rfl | hy
     ·exact hqq
     ·exact HD.out y hy
    ·rw [valN_drop _ _ (by omega), show k - 1 + 1 = k by omega, HV.out, valN, ← HXX.out]
     have h1 := HZ.out
     have h2 := HQR.out
     grind
    ·have := HA.out.set (k - 1) (qq : Int)
     rw [ints_set] at this
     rw [show List.replicate k 0 = List.replicate (k - 1) 0 ++ [0] by rw [← List.replicate_succ', show k - 1 + 1 = k by omega], List.append_assoc, List.set_append_right _ _ (by simp)] at this
     simp only [List.length_replicate, Nat.sub_self, List.cons_append, List.nil_append, List.set_cons_zero] at this
     exact this
   case measure => simp [intOf]; omega
  ·obtain rfl : k = 0 := by omega
   have ha2 := HA.out
   rw [List.replicate_zero, List.nil_append] at ha2
   have hql : q.length = xs.length := by have := HL.out; omega
   have hrd := Rd.of_arr ha2 HD.out
   have HRD := Hd (show Rd wr (.slice (some ⟨w.heap.size, 0, none⟩) q.length xs.length) q by rw [hql] at hrd ⊢; exact hrd)
   have HQL := Hd hql
   clear ha2 hrd hql hgb
   have f4 : IntKind.u32.wrap (rest : Int) = (rest : Int) := by rw [IntKind.wrap_u32]; omega
   go_wp2_with fail
   have htr := trim_rn HRD.out (by rw [HQL.out]; omega)
   rw [HQL.out] at htr
   refine htr.mono ?_
   rintro e w' ⟨v, rfl, hv, hb⟩
   have hval : m = d * valN q + rest := by
    have := HV.out
    rw [List.drop_zero, HVX.out] at this
    exact this
   have hq : valN q = m / d := by
    rw [hval, Nat.add_comm, Nat.add_mul_div_left _ _ hd, Nat.div_eq_of_lt hrest, Nat.zero_add]
   have hr : rest = m % d := by
    rw [hval, Nat.mul_add_mod, Nat.mod_eq_of_lt hrest]
   rw [hq] at hv
   have HBB := Hd (gb_to_below (gb_below HG.out hb))
   have HRR := Hd hr
   clear hq hr hval
   go_wp2_with fail
   go_ret2
   exact ⟨_, by rw [← HRR.out]; rfl, hv, HBB.out⟩
theorem bits_or_comm (k : IntKind) (a b : Int) : bits .or k a b = bits .or k b a := by simp only [bits, BitVec.or_comm]
theorem pow_split {n : Nat} (hn : n < 32) : 2 ^ n * 2 ^ (32 - n) = 4294967296 := by
 rw [← Nat.pow_add, show n + (32 - n) = 32 by omega]
theorem shift_word {x n : Nat} (hx : x < 4294967296) (hn : n < 32) : ∃ y lo hi, y = x * 2 ^ n ∧ y = lo + 4294967296 * hi ∧ lo % 2 ^ n = 0 ∧ lo + 2 ^ n ≤ 4294967296 ∧ hi < 2 ^ n := by
 have hB := pow_split hn
 refine ⟨_, (x % 2 ^ (32 - n)) * 2 ^ n, x / 2 ^ (32 - n), rfl, ?_, Nat.mul_mod_left _ _, ?_, ?_⟩
 ·have := Nat.div_add_mod x (2 ^ (32 - n))
  generalize 2 ^ n = p at *
  generalize 2 ^ (32 - n) = q at *
  generalize x / q = dd at *
  generalize x % q = mm at *
  subst this
  rw [← hB]
  grind
 ·have h1 := Nat.mod_lt x (show 0 < 2 ^ (32 - n) from Nat.pow_pos (by decide))
  have h2 := Nat.mul_le_mul_right (2 ^ n) (show x % 2 ^ (32 - n) + 1 ≤ 2 ^ (32 - n) by omega)
  rw [Nat.mul_comm (2 ^ (32 - n)), hB, Nat.add_mul, Nat.one_mul] at h2
  exact h2
 ·exact Nat.div_lt_of_lt_mul (by rw [Nat.mul_comm, hB]; exact hx)
theorem or_shift {t lo n : Nat} (hn : n < 32) (ht : t < 2 ^ n) (h0 : lo % 2 ^ n = 0) (hl : lo + 2 ^ n ≤ 4294967296) : bits .or .u32 (t : Int) (lo : Int) = ((lo + t : Nat) : Int) := by
 rw [bits_or_comm]
 have e : (2 : Int) ^ n = ((2 ^ n : Nat) : Int) := by push_cast; rfl
 have := bits_join .u32 32 (by decide) (fun n h0 h1 => IntWalk.u32_in n ⟨h0, by omega⟩) n (lo : Int) (t : Int) (by omega) (by rw [e, ← Int.natCast_emod, h0]; rfl) (by omega) (by omega) (by rw [e]; omega) (by omega)
 rw [this]
 omega
theorem wrap_shift {x y n : Nat} (hx : x < 4294967296) (hn : n < 32) (hy : y = x * 2 ^ n) : IntKind.u64.wrap ((x : Int) * 2 ^ n) = (y : Int) := by
 have e : (x : Int) * 2 ^ n = (y : Int) := by rw [hy]; push_cast; rfl
 have h1 : x * 2 ^ n ≤ 4294967296 * 4294967296 := Nat.mul_le_mul (Nat.le_of_lt hx) (Nat.le_trans (Nat.pow_le_pow_right (by decide) (Nat.le_of_lt hn)) (by decide))
 have h2 : x * 2 ^ n < 4294967296 * 2 ^ n := Nat.mul_lt_mul_of_pos_right hx (Nat.pow_pos (by decide))
 have h3 : 2 ^ n ≤ 2 ^ 31 := Nat.pow_le_pow_right (by decide) (by omega)
 rw [e, IntWalk.u64_in _ (by omega)]
theorem set_two (d z : List Nat) (a b : Nat) (i : Nat) (hd : d.length = i) : ((d ++ a :: 0 :: z).set i b) = (d ++ [b]) ++ 0 :: z := by
 subst hd
 rw [List.set_append_right _ _ (Nat.le_refl _), Nat.sub_self, List.set_cons_zero]
 simp
theorem shift_step {dv t p v q x lo hi : Nat} (h : dv + t * p = v * q) (hs : x * q = lo + 4294967296 * hi) : dv + p * (lo + t) + hi * (p * 4294967296) = (v + p * x) * q := by
 grind
def ShiftPost (w : World) (m n l : Nat) (e : Ending) (w' : World) : Prop := ∃ B us, e = .returned (.slice (some ⟨B, 0, none⟩) (l + 1) (l + 1)) ∧ w.heap.size ≤ B ∧ us.length = l + 1 ∧ Wd us ∧ valN us = m * 2 ^ n ∧ Arr .u32 w' B 44 (ints us) ∧ Below w.heap.size w w'
set_option maxHeartbeats 8000000 in
set_option maxRecDepth 100000 in
theorem shifted_calls (w : World) (v : Value) (m n : Nat) (h : RN w v m) (hm : wlen m ≤ 100000000000) (hn : n < 32) :
  Calls Tryd.prog 73 #[v, .int .i64 n] w fun e w' => ShiftPost w m n (wlen m) e w' := by
 obtain ⟨A, c, xs, rfl, hc, HX, HR⟩ := h.opened
 clear h
 have hlx : xs.length ≤ 100000000000 := by rw [HX.out]; exact hm
 have HVX : Hid (valN xs = m) := by unfold Hid; rw [HX.out, valN_dg]
 have HLX : Hid (wlen m = xs.length) := by unfold Hid; rw [HX.out]; rfl
 clear HX hm
 go_enter Tryd.func73, Tryd.ntmps73
 obtain ⟨N, hN⟩ : ∃ N : Nat, xs.length + 1 = N := ⟨_, rfl⟩
 have wl : IntKind.i64.wrap ((xs.length : Int) + 1) = ((N : Nat) : Int) := by rw [IntWalk.i64_in _ (by omega)]; omega
 have hmk := make_words 55 Tryd.underlying55 N (by omega)
 go_wp2_with fail
 clear hmk wl
 have hw0 := gb_alloc (gb_refl w none) (zw N)
 have ha0 := zw_arr w N
 generalize w.alloc (zw N) = W0 at *
 go_loopw [15] (fun vi wr => ∃ (i t : Nat) (d : List Nat), i ≤ xs.length ∧ vi = .int .i64 (i : Int) ∧ t < 2 ^ n ∧ d.length = i ∧ Wd d ∧
   valN d + t * 4294967296 ^ i = valN (xs.take i) * 2 ^ n ∧ Arr .u32 wr w.heap.size 44 (ints (d ++ t :: List.replicate (xs.length - i) 0)) ∧ w.grownBy wr none) (fun vi _ => xs.length - (intOf vi).toNat)
 case atStart => exact ⟨0, 0, [], by omega, rfl, Nat.pow_pos (by decide), rfl, (fun x hx => (by cases hx)), by simp [valN], by rw [List.nil_append, Nat.sub_zero, ← List.replicate_succ, hN]; exact ha0, hw0⟩
 case round =>
  obtain ⟨i, t, d, hi, rfl, ht, hdl, hdw, hval, harr, hgb⟩ := hrel
  have HD := Hd hdw
  have HV := Hd hval
  have HA := Hd harr
  have HG := Hd hgb
  have HL := Hd hdl
  clear hdw hval harr hdl
  by_cases hlx2 : i < xs.length
  ·have HRr := Hd (HR.out.gb hgb)
   clear hgb
   obtain ⟨g, o, rfl, hg, hcell⟩ := HRr.out.cell (j := i) hlx2
   have n1 : (i : Int) < (xs.length : Int) := by omega
   have n3 : (i : Int).toNat = i := by omega
   have n4 : (0 : Int) ≤ (i : Int) := by omega
   have n0 : (0 : Int) ≤ (n : Int) := by omega
   have nn : (n : Int).toNat = n := by omega
   have n5 : (i : Int) < (N : Int) := by omega
   have n6 : i < N := by omega
   have hx := nat_lt HR.out.wd i
   obtain ⟨x, hxx⟩ : ∃ x, x = nat xs i := ⟨_, rfl⟩
   rw [← hxx] at hx hcell
   have HXX := Hd hxx
   clear hxx
   have f0 : IntKind.u64.wrap (x : Int) = (x : Int) := IntWalk.u64_in _ (by omega)
   obtain ⟨y, lo, hi2, hy, hs, hl0, hll, hh⟩ := shift_word hx hn
   have hh31 : hi2 < 4294967296 := by
    have : 2 ^ n ≤ 2 ^ 31 := Nat.pow_le_pow_right (by decide) (by omega)
    omega
   have f1 := wrap_shift hx hn hy
   have f2 : IntKind.u32.wrap (y : Int) = (lo : Int) := by
    have : 0 < 2 ^ n := Nat.pow_pos (by decide)
    rw [IntKind.wrap_u32]; omega
   have f3 : (y : Int) / 4294967296 = (hi2 : Int) := by
    have : 0 < 2 ^ n := Nat.pow_pos (by decide)
    omega
   have f4 : IntKind.u32.wrap (hi2 : Int) = (hi2 : Int) := by rw [IntKind.wrap_u32]; omega
   have hor := or_shift hn ht hl0 hll
   obtain ⟨s, hss⟩ : ∃ s, s = lo + t := ⟨_, rfl⟩
   have hs32 : s < 4294967296 := by omega
   rw [← hss] at hor
   have hz : List.replicate (xs.length - i) 0 = 0 :: List.replicate (xs.length - (i + 1)) 0 := by rw [← List.replicate_succ]; congr 1; omega
   have HA2 : Hid (Arr .u32 wr w.heap.size 44 (ints (d ++ t :: 0 :: List.replicate (xs.length - (i + 1)) 0))) := by have := HA.out; rw [hz] at this; exact this
   clear HA hz
   have hlen : (ints (d ++ t :: 0 :: List.replicate (xs.length - (i + 1)) 0)).length = N := by rw [ints_length]; simp [HL.out] <;> omega
   have hco : wr.cell? ⟨w.heap.size, i, none⟩ = some (.int .u32 (t : Int)) := by
    have h1 := HA2.out.cell i (by rw [hlen]; omega)
    have h2 := nth_ints (d ++ t :: 0 :: List.replicate (xs.length - (i + 1)) 0) i
    unfold nth at h2
    rw [h1, h2, nat_append_right (by rw [HL.out]; exact Nat.le_refl _), HL.out, Nat.sub_self]
    rfl
   have HA3 : Hid (Arr .u32 (wr.setCell ⟨w.heap.size, i, none⟩ (.int .u32 (s : Int))) w.heap.size 44 (ints (d ++ [s] ++ 0 :: List.replicate (xs.length - (i + 1)) 0))) := by
    have := HA2.out.set i (s : Int)
    rw [ints_set, set_two _ _ _ _ _ HL.out] at this
    exact this
   have hfr := HA2.out.frozen i
   have hco2 : (wr.setCell ⟨w.heap.size, i, none⟩ (.int .u32 (s : Int))).cell? ⟨w.heap.size, i + 1, none⟩ = some (.int .u32 ((0 : Nat) : Int)) := by
    have h1 := HA3.out.cell (i + 1) (by rw [ints_length]; simp [HL.out])
    have h2 := nth_ints (d ++ [s] ++ 0 :: List.replicate (xs.length - (i + 1)) 0) (i + 1)
    unfold nth at h2
    rw [h1, h2, nat_append_right (by simp [HL.out]), List.length_append, HL.out]
    simp [nat]
   have hfr2 := HA3.out.frozen (i + 1)
   have k1 : IntKind.i64.wrap ((i : Int) + 1) = (i : Int) + 1 := IntWalk.i64_in _ (by omega)
   have k2 : (i : Int) + 1 < (N : Int) := by omega
   have k3 : ((i : Int) + 1).toNat = i + 1 := by omega
   have k4 : i + 1 < N := by omega
   have k5 : 0 ≤ (i : Int) + 1 := by omega
   have HY := Hd hy
   have HS := Hd hs
   have HSS := Hd hss
   have HLL := Hd hll
   clear hy hs hss hl0 hll
   go_wp2_with fail
   go_roundw
   case rel =>
    refine ⟨i + 1, hi2, d ++ [s], by omega, by go_num, hh, by simp [HL.out], HD.out.snoc hs32, ?_, ?_, gb_set (gb_set HG.out (.inl (Nat.le_refl _)) _) (.inl (Nat.le_refl _)) _⟩
    ·rw [valN_snoc, HL.out, valN_take_succ _ _ hlx2, ← HXX.out, Nat.pow_succ, HSS.out]
     exact shift_step HV.out (by rw [← HY.out]; exact HS.out)
    ·have := HA3.out.set (i + 1) (hi2 : Int)
     rw [ints_set, List.set_append_right _ _ (by simp [HL.out])] at this
     simp only [List.length_append, HL.out, List.length_cons, List.length_nil, Nat.zero_add, Nat.sub_self, List.set_cons_zero] at this
     exact this
   case measure => simp [intOf]; omega
  ·obtain rfl : i = xs.length := by omega
   go_wp2_with fail
   go_ret
   have ht32 : t < 4294967296 := by
    have : 2 ^ n ≤ 2 ^ 31 := Nat.pow_le_pow_right (by decide) (by omega)
    omega
   rw [HLX.out]
   refine ⟨w.heap.size, d ++ [t], by rw [hN]; rfl, Nat.le_refl _, by simp [HL.out], HD.out.snoc ht32, ?_, ?_, gb_to_below HG.out⟩
   ·have := HV.out
    rw [List.take_length, HVX.out] at this
    rw [valN_snoc, HL.out, ← this, Nat.mul_comm]
   ·have := HA.out
    rw [Nat.sub_self, List.replicate_zero] at this
    exact this
theorem unshift_word {x n : Nat} (hx : x < 4294967296) (hn : n < 32) : ∃ h r y lo, x = 2 ^ n * h + r ∧ r < 2 ^ n ∧ h < 2 ^ (32 - n) ∧ x / 2 ^ n = h ∧ y = x * 2 ^ (32 - n) ∧ y = lo + 4294967296 * h ∧ lo = r * 2 ^ (32 - n) ∧ lo % 2 ^ (32 - n) = 0 ∧ lo + 2 ^ (32 - n) ≤ 4294967296 := by
 have hB := pow_split hn
 have hr := Nat.mod_lt x (show 0 < 2 ^ n from Nat.pow_pos (by decide))
 refine ⟨x / 2 ^ n, x % 2 ^ n, _, _, (Nat.div_add_mod x (2 ^ n)).symm, hr, Nat.div_lt_of_lt_mul (by rw [hB]; exact hx), rfl, rfl, ?_, rfl, Nat.mul_mod_left _ _, ?_⟩
 ·have := Nat.div_add_mod x (2 ^ n)
  generalize 2 ^ n = p at *
  generalize 2 ^ (32 - n) = q at *
  generalize x / p = dd at *
  generalize x % p = mm at *
  subst this
  rw [← hB]
  grind
 ·have h2 := Nat.mul_le_mul_right (2 ^ (32 - n)) (show x % 2 ^ n + 1 ≤ 2 ^ n by omega)
  rw [hB, Nat.add_mul, Nat.one_mul] at h2
  exact h2
theorem or_low {t lo p : Nat} (ht : t < 2 ^ p) (h0 : lo % 2 ^ p = 0) (hl : lo + 2 ^ p ≤ 4294967296) : bits .or .u32 (t : Int) (lo : Int) = ((lo + t : Nat) : Int) := by
 rw [bits_or_comm]
 have e : (2 : Int) ^ p = ((2 ^ p : Nat) : Int) := by push_cast; rfl
 have := bits_join .u32 32 (by decide) (fun n h0 h1 => IntWalk.u32_in n ⟨h0, by omega⟩) p (lo : Int) (t : Int) (by omega) (by rw [e, ← Int.natCast_emod, h0]; rfl) (by omega) (by omega) (by rw [e]; omega) (by omega)
 rw [this]
 omega
theorem or_zero {h : Nat} (hh : h < 4294967296) : bits .or .u32 0 (h : Int) = (h : Int) := by
 rw [bits_or_comm]
 have := bits_join .u32 32 (by decide) (fun n h0 h1 => IntWalk.u32_in n ⟨h0, by omega⟩) 0 (h : Int) 0 (by omega) (by simp) (by omega) (by omega) (by omega) (by omega)
 rw [this]
 omega
theorem wrap_shift2 {x y p : Nat} (hx : x < 4294967296) (hp : p ≤ 32) (hy : y = x * 2 ^ p) : IntKind.u64.wrap ((x : Int) * 2 ^ p) = (y : Int) := by
 have e : (x : Int) * 2 ^ p = (y : Int) := by rw [hy]; push_cast; rfl
 have h3 : 2 ^ p ≤ 2 ^ 32 := Nat.pow_le_pow_right (by decide) hp
 have h1 : x * 2 ^ p ≤ 4294967295 * 2 ^ 32 := Nat.mul_le_mul (by omega) h3
 rw [e, IntWalk.u64_in _ (by omega)]
theorem un_step {s d t x p q h r r0 lo P : Nat} (hs : s = p * (d + P * t) + r0) (hx : x = p * h + r) (hl : lo = r * q) (hB : p * q = 4294967296) :
  s + P * 4294967296 * x = p * (d + P * (lo + t) + P * 4294967296 * h) + r0 := by
 subst hs hx hl
 rw [← hB]
 grind
set_option maxHeartbeats 8000000 in
set_option maxRecDepth 100000 in
theorem unshifted_calls (w : World) (A : Option Addr) (c : Nat) (xs : List Nat) (n : Nat) (h : Rd w (.slice A xs.length c) xs) (hlx : xs.length ≤ 100000000000) (hn : n < 32) :
  Calls Tryd.prog 75 #[.slice A xs.length c, .int .i64 n] w fun e w' => WPost w (valN xs / 2 ^ n) e w' := by
 have HR := Hd h
 clear h
 go_enter Tryd.func75, Tryd.ntmps75
 have hmk := make_words 55 Tryd.underlying55 xs.length (by omega)
 go_wp2_with fail
 clear hmk
 have hw0 := gb_alloc (gb_refl w none) (zw xs.length)
 have ha0 := zw_arr w xs.length
 generalize w.alloc (zw xs.length) = W0 at *
 go_loopw [13] (fun vi wr => ∃ (i r0 : Nat) (d : List Nat), i ≤ xs.length ∧ vi = .int .i64 (i : Int) ∧ r0 < 2 ^ n ∧ d.length = i ∧ Wd d ∧
   valN (xs.take i) = 2 ^ n * valN d + r0 ∧ (0 < i → nat d (i - 1) < 2 ^ (32 - n)) ∧ (i = 0 → r0 = 0) ∧ Arr .u32 wr w.heap.size 44 (ints (d ++ List.replicate (xs.length - i) 0)) ∧ w.grownBy wr none) (fun vi _ => xs.length - (intOf vi).toNat)
 case atStart => exact ⟨0, 0, [], by omega, rfl, Nat.pow_pos (by decide), rfl, (fun x hx => (by cases hx)), by simp [valN], by omega, by omega, ha0, hw0⟩
 case round =>
  obtain ⟨i, r0, d, hi, rfl, hr0, hdl, hdw, hval, hdt, hr00, harr, hgb⟩ := hrel
  have HD := Hd hdw
  have HV := Hd hval
  have HA := Hd harr
  have HG := Hd hgb
  have HL := Hd hdl
  have HT := Hd hdt
  have HR0 := Hd hr00
  clear hdw hval harr hdl hdt hr00
  by_cases hlx2 : i < xs.length
  ·have HRr := Hd (HR.out.gb hgb)
   clear hgb
   obtain ⟨g, o, rfl, hg, hcell⟩ := HRr.out.cell (j := i) hlx2
   have n1 : (i : Int) < (xs.length : Int) := by omega
   have n3 : (i : Int).toNat = i := by omega
   have n4 : (0 : Int) ≤ (i : Int) := by omega
   have n0 : (0 : Int) ≤ (n : Int) := by omega
   have nn : (n : Int).toNat = n := by omega
   have hx := nat_lt HR.out.wd i
   obtain ⟨x, hxx⟩ : ∃ x, x = nat xs i := ⟨_, rfl⟩
   rw [← hxx] at hx hcell
   have HXX := Hd hxx
   clear hxx
   have f0 : IntKind.u64.wrap (x : Int) = (x : Int) := IntWalk.u64_in _ (by omega)
   obtain ⟨h, r, y, lo, hxr, hr, hh, hdiv, hy, hs, hlo, hl0, hll⟩ := unshift_word hx hn
   have hp32 : 2 ^ (32 - n) ≤ 4294967296 := Nat.le_trans (Nat.pow_le_pow_right (by decide) (Nat.sub_le 32 n)) (by decide)
   have hpos : 0 < 2 ^ (32 - n) := Nat.pow_pos (by decide)
   have hh32 : h < 4294967296 := by omega
   have f1 : (x : Int) / 2 ^ n = (h : Int) := by
    have e : (2 : Int) ^ n = ((2 ^ n : Nat) : Int) := by push_cast; rfl
    rw [e, ← Int.natCast_ediv, hdiv]
   have hor0 := or_zero hh32
   have hz : List.replicate (xs.length - i) 0 = 0 :: List.replicate (xs.length - (i + 1)) 0 := by rw [← List.replicate_succ]; congr 1; omega
   have HA2 : Hid (Arr .u32 wr w.heap.size 44 (ints (d ++ 0 :: List.replicate (xs.length - (i + 1)) 0))) := by have := HA.out; rw [hz] at this; exact this
   clear HA hz
   have hco : wr.cell? ⟨w.heap.size, i, none⟩ = some (.int .u32 0) := by
    have h1 := HA2.out.cell i (by rw [ints_length]; simp [HL.out])
    have h2 := nth_ints (d ++ 0 :: List.replicate (xs.length - (i + 1)) 0) i
    unfold nth at h2
    rw [h1, h2, nat_append_right (by rw [HL.out]; exact Nat.le_refl _), HL.out, Nat.sub_self]
    rfl
   have hfr := HA2.out.frozen i
   have HA3 : Hid (Arr .u32 (wr.setCell ⟨w.heap.size, i, none⟩ (.int .u32 (h : Int))).drew w.heap.size 44 (ints ((d ++ [h]) ++ List.replicate (xs.length - (i + 1)) 0))) := by
    have := HA2.out.set i (h : Int)
    rw [ints_set, List.set_append_right _ _ (by rw [HL.out]; exact Nat.le_refl _), HL.out, Nat.sub_self, List.set_cons_zero] at this
    rw [List.append_assoc]
    exact this
   have HG3 : Hid (w.grownBy (wr.setCell ⟨w.heap.size, i, none⟩ (.int .u32 (h : Int))).drew none) := gb_drew (gb_set HG.out (.inl (Nat.le_refl _)) _)
   by_cases h0 : i = 0
   ·have m1 : ¬ (i : Int) > 0 := by omega
    have HXR := Hd hxr
    have HI0 := Hd h0
    clear hxr hdiv hy hs hlo hl0 hll h0
    go_wp2_with fail
    go_still_tail 9, (by kernel_rfl)
    go_wp2_with fail
    go_roundw
    case rel =>
     have h0 : i = 0 := HI0.out
     subst h0
     have hd0 : d = [] := List.eq_nil_of_length_eq_zero HL.out
     refine ⟨1, r, d ++ [h], by omega, by go_num, hr, by simp [HL.out], HD.out.snoc hh32, ?_, fun _ => ?_, by omega, HA3.out, HG3.out⟩
     ·rw [valN_snoc, HL.out, valN_take_succ _ _ hlx2, ← HXX.out, hd0]
      simpa [valN] using HXR.out
     ·rw [hd0]
      exact hh
    case measure => simp [intOf]; omega
   ·have m1 : (i : Int) > 0 := by omega
    obtain ⟨dd, t, hdd, hddl⟩ : ∃ dd t, d = dd ++ [t] ∧ dd.length = i - 1 := by
     refine ⟨d.take (i - 1), nat d (i - 1), ?_, by rw [List.length_take, HL.out]; omega⟩
     rw [← take_succ_nat d (i - 1) (by rw [HL.out]; omega), show i - 1 + 1 = i by omega, List.take_of_length_le (by rw [HL.out]; exact Nat.le_refl _)]
    have ht : t < 2 ^ (32 - n) := by
     have := HT.out (by omega)
     rw [hdd, nat_append_right (by rw [hddl]; exact Nat.le_refl _), hddl, Nat.sub_self] at this
     exact this
    have f2 := wrap_shift2 hx (Nat.sub_le 32 n) hy
    have f3 : IntKind.u32.wrap (y : Int) = (lo : Int) := by rw [IntKind.wrap_u32]; omega
    have hmin : ∀ p, p = 32 - n → min p 64 = p := fun p hp => by omega
    have f33 : (y : Int) % 4294967296 = (lo : Int) := by omega
    have hor := or_low ht hl0 hll
    obtain ⟨s, hss⟩ : ∃ s, s = lo + t := ⟨_, rfl⟩
    have hs32 : s < 4294967296 := by omega
    rw [← hss] at hor
    have k0 : IntKind.i64.wrap (32 - (n : Int)) = ((32 - n : Nat) : Int) := by rw [IntWalk.i64_in _ (by omega)]; omega
    obtain ⟨p, hp⟩ : ∃ p, p = 32 - n := ⟨_, rfl⟩
    rw [← hp] at k0 f2
    have hmn := hmin p hp
    clear hmin
    have he : bits .or .u32 (t : Int) (IntKind.u64.wrap ((x : Int) * 2 ^ min p 64) % 4294967296) = (s : Int) := by rw [hmn, f2, f33, hor]
    have HE := Hd he
    clear he
    have k00 : (0 : Int) ≤ (p : Int) := by omega
    have k01 : (p : Int).toNat = p := by omega
    have k1 : IntKind.i64.wrap ((i : Int) - 1) = (i : Int) - 1 := IntWalk.i64_in _ (by omega)
    have k2 : (i : Int) - 1 < (xs.length : Int) := by omega
    have k3 : ((i : Int) - 1).toNat = i - 1 := by omega
    have k4 : i - 1 < xs.length := by omega
    have k5 : 0 ≤ (i : Int) - 1 := by omega
    have k6 : (1 : Int) ≤ (i : Int) := by omega
    have k7 : 1 ≤ i := by omega
    have k8 : 0 < i := by omega
    have hco2 : (wr.setCell ⟨w.heap.size, i, none⟩ (.int .u32 (h : Int))).drew.cell? ⟨w.heap.size, i - 1, none⟩ = some (.int .u32 (t : Int)) := by
     have h1 := HA3.out.cell (i - 1) (by rw [ints_length]; simp [HL.out]; omega)
     have h2 := nth_ints ((d ++ [h]) ++ List.replicate (xs.length - (i + 1)) 0) (i - 1)
     unfold nth at h2
     rw [h1, h2, nat_append_left (by simp [HL.out]; omega), nat_append_left (by rw [HL.out]; omega), hdd, nat_append_right (by rw [hddl]; exact Nat.le_refl _), hddl, Nat.sub_self]
     rfl
    have hfr2 := HA3.out.frozen (i - 1)
    have HXR := Hd hxr
    have HSS := Hd hss
    have HLO := Hd hlo
    have HDD := Hd hdd
    have HDDL := Hd hddl
    clear hxr hdiv hy hs hlo hl0 hll hss hdd hddl hp
    go_wp2_with fail
    go_still_tail 9, (by kernel_rfl)
    go_wp2_with fail
    generalize (wr.setCell ⟨w.heap.size, i, none⟩ (.int .u32 (h : Int))).drew = W2 at *
    go_still_tail 13, (by kernel_rfl)
    go_wp2_with fail
    go_roundw
    case rel =>
     refine ⟨i + 1, r0, dd ++ [s] ++ [h], by omega, by go_num, hr0, by simp [HDDL.out]; omega, ((HDD.out ▸ HD.out).left.snoc hs32).snoc hh32, ?_, fun _ => ?_, by omega, ?_, gb_drew (gb_set HG3.out (.inl (Nat.le_refl _)) _)⟩
     ·have h1 := HV.out
      rw [HDD.out, valN_snoc, HDDL.out] at h1
      rw [valN_snoc, valN_snoc, List.length_append, HDDL.out, valN_take_succ _ _ hlx2, ← HXX.out, HSS.out]
      have e : 4294967296 ^ i = 4294967296 ^ (i - 1) * 4294967296 := by rw [← Nat.pow_succ]; congr 1; omega
      have e2 : 4294967296 ^ (i - 1 + [lo + t].length) = 4294967296 ^ (i - 1) * 4294967296 := Nat.pow_succ ..
      rw [e, e2]
      exact un_step h1 HXR.out HLO.out (pow_split hn)
     ·rw [show i + 1 - 1 = (dd ++ [s]).length by simp [HDDL.out]; omega, nat_append_right (Nat.le_refl _), Nat.sub_self]
      exact hh
     ·have := HA3.out.set (i - 1) (s : Int)
      rw [ints_set, HDD.out] at this
      rw [List.append_assoc, List.append_assoc, List.set_append_right _ _ (by rw [HDDL.out]; exact Nat.le_refl _), HDDL.out, Nat.sub_self] at this
      simp only [List.cons_append, List.nil_append, List.set_cons_zero] at this
      simp only [List.append_assoc, List.cons_append, List.nil_append]
      first
       | exact this
       | (rw [HE.out]; exact this)
    case measure => simp [intOf]; omega
  ·obtain rfl : i = xs.length := by omega
   have ha2 := HA.out
   rw [Nat.sub_self, List.replicate_zero, List.append_nil] at ha2
   have hrd := Rd.of_arr ha2 HD.out
   have HRD := Hd (show Rd wr (.slice (some ⟨w.heap.size, 0, none⟩) d.length xs.length) d by have hl := HL.out; rw [hl] at hrd ⊢; exact hrd)
   clear ha2 hrd hgb
   go_wp2_with fail
   have htr := trim_rn HRD.out (by rw [HL.out]; omega)
   rw [HL.out] at htr
   refine htr.mono ?_
   rintro e w' ⟨v, rfl, hv, hb⟩
   have hval : valN d = valN xs / 2 ^ n := by
    have := HV.out
    rw [List.take_length] at this
    rw [this, Nat.mul_add_div (Nat.pow_pos (by decide)), Nat.div_eq_of_lt hr0, Nat.add_zero]
   rw [hval] at hv
   have HBB := Hd (gb_to_below (gb_below HG.out hb))
   go_wp2_with fail
   go_ret
   exact ⟨_, rfl, hv, HBB.out⟩
open Go.Shelf in
def renZ : Ren := { f := fun x => match x with | 133 => 72 | 128 => 76 | n => n, t := fun x => match x with | 51 => 44 | 3 => 3 | 4 => 4 | 46 => 50 | 5 => 5 | 9 => 9 | n => n, g := fun x => x }
open Go.Shelf in
theorem laysZ : Lays.n133 Tryd.prog renZ where
 mixed := by kernel_rfl
 f128 := Tryd.func76.trans (by kernel_rfl)
 f133 := Tryd.func72.trans (by kernel_rfl)
 t3 := Tryd.underlying3
 a3 := Tryd.isAgg3
 z3 := Tryd.sizeOf3
 v3 := Tryd.zeroValue3
 t4 := Tryd.underlying4
 a4 := Tryd.isAgg4
 z4 := Tryd.sizeOf4
 v4 := Tryd.zeroValue4
 t5 := Tryd.underlying5
 a5 := Tryd.isAgg5
 z5 := Tryd.sizeOf5
 v5 := Tryd.zeroValue5
 t9 := Tryd.underlying9
 a9 := Tryd.isAgg9
 z9 := Tryd.sizeOf9
 v9 := Tryd.zeroValue9
 t46 := Tryd.underlying50
 a46 := Tryd.isAgg50
 z46 := Tryd.sizeOf50
 v46 := Tryd.zeroValue50
 t51 := Tryd.underlying44
 a51 := Tryd.isAgg44
 z51 := Tryd.sizeOf44
 v51 := Tryd.zeroValue44
theorem zeros_calls (d : Nat) (w : World) (h1 : d < 4294967296) :
  Calls Tryd.prog 72 #[.int .u32 (d : Int)] w fun e w' => e = .returned (.int .i64 (32 - (Go.Lib.bitLen d : Int))) ∧ w' = w :=
 Go.Proofs.Any.bits_LeadingZeros32 laysZ (d : Int) w (by omega) (by omega)
theorem bitLen_two (x : Nat) (h0 : x ≠ 0) (h : x < 18446744073709551616) : x < 2 ^ Go.Lib.bitLen x ∧ 2 ^ (Go.Lib.bitLen x - 1) ≤ x := by
 induction x using Nat.strongRecOn with
 | ind x ih =>
  by_cases h1 : x = 1
  ·subst h1
   decide
  ·have e := Go.Lib.bitLen_half x h0 h
   obtain ⟨a, b⟩ := ih (x / 2) (by omega) (by omega) (by omega)
   have hp : 0 < Go.Lib.bitLen (x / 2) := by
    rcases Nat.eq_zero_or_pos (Go.Lib.bitLen (x / 2)) with h | h
    ·rw [h] at a; omega
    ·exact h
   rw [e]
   obtain ⟨k, hk⟩ : ∃ k, Go.Lib.bitLen (x / 2) = k + 1 := ⟨_, (Nat.succ_pred_eq_of_pos hp).symm⟩
   rw [hk] at a b ⊢
   rw [Nat.add_sub_cancel] at b
   rw [show 1 + (k + 1) - 1 = k + 1 by omega, show 1 + (k + 1) = k + 2 by omega]
   rw [Nat.pow_succ] at a ⊢
   rw [Nat.pow_succ]
   omega
theorem zeros_norm {d : Nat} (h0 : d ≠ 0) (h1 : d < 4294967296) : ∃ n : Nat, n < 32 ∧ (32 - (Go.Lib.bitLen d : Int)) = (n : Int) ∧ 2147483648 ≤ d * 2 ^ n ∧ d * 2 ^ n < 4294967296 := by
 obtain ⟨ha, hb⟩ := bitLen_two d h0 (by omega)
 have hle : Go.Lib.bitLen d ≤ 32 := Go.Lib.bitLen_le d 32 (by decide) h1
 have hpos : 0 < Go.Lib.bitLen d := by
  rcases Nat.eq_zero_or_pos (Go.Lib.bitLen d) with h | h
  ·rw [h] at ha; omega
  ·exact h
 refine ⟨32 - Go.Lib.bitLen d, by omega, by omega, ?_, ?_⟩
 ·have := Nat.mul_le_mul_right (2 ^ (32 - Go.Lib.bitLen d)) hb
  rwa [← Nat.pow_add, show Go.Lib.bitLen d - 1 + (32 - Go.Lib.bitLen d) = 31 by omega] at this
 ·have := Nat.mul_lt_mul_of_pos_right ha (Nat.pow_pos (n := 32 - Go.Lib.bitLen d) (show 0 < 2 by decide))
  rwa [← Nat.pow_add, show Go.Lib.bitLen d + (32 - Go.Lib.bitLen d) = 32 by omega] at this
theorem valN_top2 {v : List Nat} (hw : Wd v) (hn : 2 ≤ v.length) : ∃ lowV, lowV < 4294967296 ^ (v.length - 2) ∧
  valN v = lowV + 4294967296 ^ (v.length - 2) * (nat v (v.length - 2) + 4294967296 * nat v (v.length - 1)) := by
 refine ⟨valN (v.take (v.length - 2)), ?_, ?_⟩
 ·have := valN_lt _ (hw.take (v.length - 2))
  rwa [List.length_take, Nat.min_eq_left (by omega)] at this
 ·conv => lhs; rw [valN_split v (v.length - 2) (by omega)]
  rw [valN_drop _ _ (by omega), show v.length - 2 + 1 = v.length - 1 by omega, valN_drop _ _ (by omega), show v.length - 1 + 1 = v.length by omega, List.drop_length]
  simp [valN]
theorem valN_top3 {s : List Nat} (hw : Wd s) (n : Nat) (hn : 2 ≤ n) (hl : s.length = n + 1) : ∃ lowS, lowS < 4294967296 ^ (n - 2) ∧
  valN s = lowS + 4294967296 ^ (n - 2) * (nat s (n - 2) + 4294967296 * (nat s n * 4294967296 + nat s (n - 1))) := by
 refine ⟨valN (s.take (n - 2)), ?_, ?_⟩
 ·have := valN_lt _ (hw.take (n - 2))
  rwa [List.length_take, Nat.min_eq_left (by omega)] at this
 ·conv => lhs; rw [valN_split s (n - 2) (by omega)]
  rw [valN_drop _ _ (by omega), show n - 2 + 1 = n - 1 by omega, valN_drop _ _ (by omega), show n - 1 + 1 = n by omega, valN_drop _ _ (by omega), List.drop_of_length_le (by omega)]
  simp only [valN, Nat.mul_zero, Nat.add_zero]
  congr 3
  omega
theorem guess_pass {g V S v1 v2 s0 top r lowV lowS p : Nat} (hV : V = lowV + p * (v2 + 4294967296 * v1)) (hlv : lowV < p) (hS : S = lowS + p * (s0 + 4294967296 * top))
  (hv1 : 0 < v1) (h1 : g * v1 + r = top) (hg : g < 4294967296) (h2 : g * v2 ≤ r * 4294967296 + s0) : g * V < S + V := by
 have e1 : g * V = g * lowV + p * (g * v2 + 4294967296 * (g * v1)) := by subst hV; grind
 have e2 : p * (g * v2 + 4294967296 * (g * v1)) ≤ p * (r * 4294967296 + s0 + 4294967296 * (g * v1)) := Nat.mul_le_mul_left p (by omega)
 have e3 : p * (r * 4294967296 + s0 + 4294967296 * (g * v1)) = p * (s0 + 4294967296 * top) := by rw [← h1]; congr 1; omega
 have e4 : g * lowV ≤ g * p := Nat.mul_le_mul_left g (by omega)
 have e5 : g * p ≤ 4294967295 * p := Nat.mul_le_mul_right p (by omega)
 have e6 : p * 4294967296 ≤ p * (v2 + 4294967296 * v1) := Nat.mul_le_mul_left p (by omega)
 have e7 : 4294967295 * p + p = p * 4294967296 := by omega
 omega
theorem guess_down {g V S v1 v2 s0 top r lowV lowS p : Nat} (hV : V = lowV + p * (v2 + 4294967296 * v1)) (hS : S = lowS + p * (s0 + 4294967296 * top)) (hls : lowS < p)
  (h1 : g * v1 + r = top) (h2 : r * 4294967296 + s0 < g * v2) : S < g * V := by
 have e1 : g * V = g * lowV + p * (g * v2 + 4294967296 * (g * v1)) := by subst hV; grind
 have e2 : p * (r * 4294967296 + s0 + 4294967296 * (g * v1) + 1) ≤ p * (g * v2 + 4294967296 * (g * v1)) := Nat.mul_le_mul_left p (by omega)
 have e3 : p * (r * 4294967296 + s0 + 4294967296 * (g * v1) + 1) = p * (s0 + 4294967296 * top) + p := by rw [← h1]; grind
 omega
theorem head_le {V S v1 v2 s0 s1 s2 lowV lowS p : Nat} (hV : V = lowV + p * (v2 + 4294967296 * v1)) (hlv : lowV < p) (hv2 : v2 < 4294967296) (hS : S = lowS + p * (s0 + 4294967296 * (s2 * 4294967296 + s1)))
  (hlt : S < 4294967296 * V) : s2 ≤ v1 := by
 refine Nat.le_of_not_lt fun hh => ?_
 have e1 : p * (4294967296 * ((v1 + 1) * 4294967296)) ≤ p * (s0 + 4294967296 * (s2 * 4294967296 + s1)) := Nat.mul_le_mul_left p (by have := Nat.mul_le_mul_right 4294967296 hh; omega)
 have e2 : p * (v2 + 4294967296 * v1) + p ≤ p * ((v1 + 1) * 4294967296) := by
  have : p * (v2 + 4294967296 * v1 + 1) ≤ p * ((v1 + 1) * 4294967296) := Nat.mul_le_mul_left p (by omega)
  rw [Nat.mul_add, Nat.mul_one] at this
  exact this
 have e3 : p * (4294967296 * ((v1 + 1) * 4294967296)) = 4294967296 * (p * ((v1 + 1) * 4294967296)) := by grind
 omega
theorem guess_small {g v1 r top s1 s2 : Nat} (h1 : g * v1 + r = top) (ht : top = s2 * 4294967296 + s1) (hs1 : s1 < 4294967296) (hle : s2 ≤ v1) (hr : 4294967296 ≤ r) : g < 4294967296 := by
 refine Nat.lt_of_not_le fun hh => ?_
 have e1 : 4294967296 * v1 ≤ g * v1 := Nat.mul_le_mul_right v1 hh
 have e2 : s2 * 4294967296 ≤ v1 * 4294967296 := Nat.mul_le_mul_right _ hle
 omega
theorem quot_small {S V : Nat} (hlt : S < 4294967296 * V) : S / V < 4294967296 := Nat.div_lt_of_lt_mul (by rw [Nat.mul_comm]; exact hlt)
theorem quot_first {S V v1 v2 s0 top lowV lowS p g r : Nat} (hV : V = lowV + p * (v2 + 4294967296 * v1)) (hS : S = lowS + p * (s0 + 4294967296 * top)) (hls : lowS < p)
  (hs0 : s0 < 4294967296) (h1 : g * v1 + r = top) (hr : r < v1) : S / V ≤ g := by
 refine Nat.le_of_lt_succ (Nat.div_lt_of_lt_mul ?_)
 have e0 : (g + 1) * v1 = g * v1 + v1 := by grind
 have e1 : p * (4294967296 * (top + 1)) ≤ p * (4294967296 * ((g + 1) * v1)) := Nat.mul_le_mul_left p (Nat.mul_le_mul_left _ (by omega))
 have e2 : p * (4294967296 * ((g + 1) * v1)) ≤ V * (g + 1) := by
  subst hV
  have : p * (4294967296 * ((g + 1) * v1)) + (lowV + p * v2) * (g + 1) = (lowV + p * (v2 + 4294967296 * v1)) * (g + 1) := by grind
  omega
 have e3 : p * (s0 + 4294967296 * top + 1) ≤ p * (4294967296 * (top + 1)) := Nat.mul_le_mul_left p (by omega)
 rw [Nat.mul_add p, Nat.mul_one] at e3
 show S < V * (g + 1)
 omega
theorem take_step {dn s gv c b c' b' lo s1 v1 g x P : Nat} (h : dn + g * gv = s + (c + b) * P) (h1 : c + g * v1 = lo + 4294967296 * c') (h2 : s1 + b' * 4294967296 = x + (lo + b)) :
  (dn + P * x) + g * (gv + P * v1) = (s + P * s1) + (c' + b') * (P * 4294967296) := by
 grind
theorem back_step {dn d0 gv c c' lo u v P : Nat} (h : dn + c * P = d0 + gv) (h1 : c + (u + v) = lo + 4294967296 * c') : (dn + P * lo) + c' * (P * 4294967296) = (d0 + P * u) + (gv + P * v) := by
 grind
theorem digit_exact {D g V s2 T Sl S P : Nat} (h : D + g * V = Sl + T * P) (hS : S = Sl + P * s2) (hT : T ≤ s2) (hV : 0 < V) (hq : S / V ≤ g) : g = S / V ∧ D + P * (s2 - T) = S % V := by
 have e : D + P * (s2 - T) + g * V = S := by
  rw [hS, Nat.mul_sub]
  have : T * P ≤ P * s2 := by rw [Nat.mul_comm]; exact Nat.mul_le_mul_left P hT
  have e2 : P * T = T * P := Nat.mul_comm _ _
  omega
 have hg : g ≤ S / V := (Nat.le_div_iff_mul_le hV).2 (by omega)
 have hge : g = S / V := Nat.le_antisymm hg hq
 refine ⟨hge, ?_⟩
 have := Nat.div_add_mod S V
 rw [← hge, Nat.mul_comm] at this
 omega
theorem digit_back {D D' c g V s2 T Sl S P : Nat} (h : D + g * V = Sl + T * P) (hS : S = Sl + P * s2) (hT : s2 < T) (hb : D' + c * P = D + V) (hV : 0 < V) (hVP : V < P) (hD : D' < P) (hD0 : D < P)
  (hc : c ≤ 1) (hq : S / V ≤ g) (hg : g * V < S + V) : g = S / V + 1 ∧ T = s2 + 1 ∧ c = 1 ∧ D' = S % V := by
 have hlt : S < g * V := by
  have : P * s2 + P ≤ T * P := by rw [Nat.mul_comm P s2, ← Nat.succ_mul]; exact Nat.mul_le_mul_right P hT
  omega
 have hne : g ≠ 0 := by rintro rfl; omega
 obtain ⟨k, rfl⟩ : ∃ k, g = k + 1 := ⟨g - 1, by omega⟩
 have hk : (k + 1) * V = k * V + V := Nat.succ_mul k V
 have hkq : S / V = k := by
  refine Nat.div_eq_of_lt_le ?_ ?_
  ·omega
  ·exact hlt
 have hdm := Nat.div_add_mod S V
 rw [hkq, Nat.mul_comm] at hdm
 have hml := Nat.mod_lt S hV
 -- S + V = (k+1) V + rest
 obtain ⟨t, rfl⟩ : ∃ t, T = s2 + 1 + t := ⟨T - s2 - 1, by omega⟩
 have e1 : (s2 + 1 + t) * P = P * s2 + P + t * P := by grind
 rcases Nat.le_one_iff_eq_zero_or_eq_one.1 hc with rfl | rfl
 ·omega
 ·have ht : t = 0 := by
   rcases Nat.eq_zero_or_pos t with h | h
   ·exact h
   ·have : P ≤ t * P := Nat.le_mul_of_pos_left P h
    omega
  subst ht
  refine ⟨by omega, rfl, rfl, by omega⟩
end Go.Proofs.YthpkoidlpfllaaaDoor

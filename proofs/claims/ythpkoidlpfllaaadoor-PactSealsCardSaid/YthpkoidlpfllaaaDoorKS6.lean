/- Contracts of Go functions that the statement reaches, proved by walking their text, and plain laws over them (texts put together). -/
import Derived.Test.YthpkoidlpfllaaaDoorKS3
import Derived.Test.YthpkoidlpfllaaaDoorKS5
import Derived.Deep.Strs
import Derived.ChangeMaps5
import Derived.OpenShut
import Derived.WideShapes
import Derived.Test.YthpkoidlpfllaaaDoorKS2
set_option linter.unusedVariables false
set_option linter.unusedSimpArgs false
namespace Go.Proofs.YthpkoidlpfllaaaDoor
open Go.RowKit
def FR0 (w : World) (v : Value) (f : RawF) : Prop := (f.num.length ≤ 9223372036854775807 ∧ f.den.length ≤ 9223372036854775807) ∧ ∃ v1 v2, v = .agg #[.bool f.neg, v1, v2] ∧ Rd w v1 f.num ∧ Rd w v2 f.den
def EF0 (w : World) (vs : Array Value) (f : RawF) : Prop := FR0 w (.agg vs) f
theorem FR0.of_below {w w1 : World} {v : Value} {f : RawF} (h : FR0 w v f) (hb : Below w.heap.size w w1) : FR0 w1 v f := by
 obtain ⟨hl, v1, v2, e, h1, h2⟩ := h
 exact ⟨hl, v1, v2, e, h1.below hb, h2.below hb⟩
theorem EF0.stays : Stays EF0 := fun _ _ _ _ h hb => FR0.of_below h hb
theorem FR0.opened {w : World} {v : Value} {f : RawF} (h : FR0 w v f) : ∃ A1 c1 A2 c2, v = .agg #[.bool f.neg, .slice A1 f.num.length c1, .slice A2 f.den.length c2] ∧ Hid (FR0 w (.agg #[.bool f.neg, .slice A1 f.num.length c1, .slice A2 f.den.length c2]) f) := by
 have h0 := h
 obtain ⟨hl, v1, v2, rfl, h1, h2⟩ := h
 obtain ⟨A1, c1, rfl, _⟩ := h1.slice
 obtain ⟨A2, c2, rfl, _⟩ := h2.slice
 exact ⟨A1, c1, A2, c2, rfl, h0⟩
theorem FR0.lens {w : World} {v : Value} {f : RawF} (h : FR0 w v f) : f.num.length ≤ 9223372036854775807 ∧ f.den.length ≤ 9223372036854775807 := h.1
theorem FR0.full {w : World} {v : Value} {f : RawF} (h : FR0 w v f) (hl : f.num.length ≤ 1000000000 ∧ f.den.length ≤ 1000000000) : FR w v f := ⟨hl, h.2⟩
open Go.ChangeShapes Go.WideShapes Go.Deep
section
variable {H : Type} {enc : TypeId × Value → H} {P : Program} {w : World} {base : Nat} {spare : Nat → Bool} {held : Bool}
theorem plain_of_cell {a : Addr} {v : Value} (h : w.cell? a = some v) : a.spot = none := by
 simp only [World.cell?] at h
 split at h
 ·cases hx : a.spot with
  | none => rfl
  | some x => rw [hx] at h; simp at h
 ·cases h
theorem open_sl {α : Type} {E : World → Array Value → α → Prop} {k : Nat} {t e : TypeId} {fuel : Nat} {cs : List Value} {x : DataW H × List MemPlace} (ht : P.underlying t = some (.slice e)) (hc : P.cellsOf e = k) (hk : 0 < k)
  (hE : ∀ (n : Nat) (cs' : List Value) (y : DataW H × List MemPlace), DataW.trod enc P w base spare held n e cs' = some y → cs'.length = k → ∃ a, E w cs'.toArray a)
  (h : DataW.trod enc P w base spare held fuel t cs = some x) : ∃ v xs, cs = [v] ∧ SL k E w v xs ∧ xs.length ≤ maxLen := by
 rcases open_slice ht h with ⟨rfl, _⟩ | ⟨a, len, cap, m, n, D, Pl, rfl, _, hl, hm, hmm, _, hi⟩
 ·exact ⟨_, [], rfl, ⟨none, 0, rfl, Nat.le_refl _, fun h => absurd h (Nat.lt_irrefl _)⟩, Nat.zero_le _⟩
 ·rw [hc] at hi
  have hlm : len ≤ m := by rw [hmm]; split <;> omega
  have each : ∀ i : Fin len, ∃ b : α, ∃ cs' : List Value, cs'.length = k ∧ E w cs'.toArray b ∧ ∀ j, j < k → w.cell? (a.add (i.val * k + j)) = cs'[j]? := fun i => by
   obtain ⟨cs', h1, h2⟩ := hi i.val (by have := i.isLt; omega)
   obtain ⟨_, h3, h4⟩ := World.cells?_some h1
   obtain ⟨b, hb⟩ := hE n cs' _ h2 h3
   exact ⟨b, cs', h3, hb, fun j hj => by rw [← h4 j hj, add_add]⟩
  refine ⟨_, List.ofFn fun i => (each i).choose, rfl, ⟨some a, cap, by rw [List.length_ofFn], by rw [List.length_ofFn]; exact hl, fun hp => ?_⟩, by rw [List.length_ofFn]; omega⟩
  rw [List.length_ofFn] at hp
  obtain ⟨cs0, h0, _, h1⟩ := (each ⟨0, hp⟩).choose_spec
  have hc0 := h1 0 hk
  rw [List.getElem?_eq_getElem (by omega)] at hc0
  have ha0 : a.add (0 * k + 0) = a := by rw [Nat.zero_mul]; rfl
  simp only [ha0] at hc0
  have hsp := plain_of_cell hc0
  obtain ⟨g, o, sp⟩ := a
  simp only at hsp
  subst hsp
  refine ⟨g, o, rfl, World.block_lt_of_cell? w _ hc0, fun j y hj => ?_⟩
  obtain ⟨hjl, e⟩ := List.getElem?_eq_some_iff.1 hj
  rw [List.length_ofFn] at hjl
  rw [List.getElem_ofFn] at e
  obtain ⟨cs', h2, h3, h4⟩ := (each ⟨j, hjl⟩).choose_spec
  rw [e] at h3
  refine ⟨cs'.toArray, by simpa using h2, fun i v hv => ?_, h3⟩
  have hil : i < k := by
   have := (Array.getElem?_eq_some_iff.1 hv).1
   simp at this
   omega
  have h5 := h4 i hil
  rw [add_plain] at h5
  simp only at h5
  rw [show o + j * k + i = o + (j * k + i) by omega, h5]
  simpa using hv
end
section
variable {H : Type} {enc : TypeId × Value → H} {w : World} {base : Nat} {spare : Nat → Bool} {held : Bool} {fuel : Nat} {cs : List Value} {x : DataW H × List MemPlace}
theorem ml_le {n : Nat} (h : n ≤ maxLen) : n ≤ 9223372036854775807 := by unfold maxLen at h; omega
theorem open25 (h : DataW.trod enc Tryd.prog w base spare held fuel 25 cs = some x) : ∃ v xs, cs = [v] ∧ Rd w v xs ∧ xs.length ≤ 9223372036854775807 := by
 obtain ⟨v, ns, hv, hs, hl⟩ := open_sl (α := Nat) (E := fun w vs n => n < 4294967296 ∧ vs = #[.int .u32 (n : Int)]) (k := 1) Tryd.underlying25 (by kernel_rfl) (by decide) (fun n cs' y hy hlen => by
  obtain ⟨z, rfl, _, hw⟩ := DataW.trod_int Tryd.underlying44 hy
  have hw' : (0 : Int) ≤ z ∧ z ≤ 2 ^ 32 - 1 := by simpa [Lit.wf, IntKind.min, IntKind.max, IntKind.signed, IntKind.bits] using hw
  exact ⟨z.toNat, by omega, by rw [Int.toNat_of_nonneg hw'.1]⟩) h
 refine ⟨v, ns, hv, ?_, ml_le hl⟩
 obtain ⟨A, c, e, hc, hr⟩ := hs
 have hwd : Wd ns := fun n hn => by
  obtain ⟨j, hj⟩ := List.getElem?_of_mem hn
  obtain ⟨g, o, _, _, he⟩ := hr (by have := (List.getElem?_eq_some_iff.1 hj).1; omega)
  obtain ⟨vs, _, _, h3, _⟩ := he j n hj
  exact h3
 refine ⟨hwd, A, c, e, hc, fun hp => ?_⟩
 obtain ⟨g, o, hA, hg, he⟩ := hr hp
 refine ⟨g, o, hA, hg, fun j hj => ?_⟩
 obtain ⟨vs, _, h2, _, rfl⟩ := he j _ (List.getElem?_eq_getElem hj)
 have := h2 0 _ rfl
 rw [Nat.mul_one, Nat.add_zero] at this
 rw [this]
 unfold nat
 rw [List.getD_eq_getElem?_getD, List.getElem?_eq_getElem hj]
 rfl
theorem list3 {α : Type} {l : List α} (h : l.length = 3) : ∃ a b c, l = [a, b, c] := by
 match l, h with
 | [a, b, c], _ => exact ⟨a, b, c, rfl⟩
theorem list4 {α : Type} {l : List α} (h : l.length = 4) : ∃ a b c d, l = [a, b, c, d] := by
 match l, h with
 | [a, b, c, d], _ => exact ⟨a, b, c, d, rfl⟩
theorem list5 {α : Type} {l : List α} (h : l.length = 5) : ∃ a b c d e, l = [a, b, c, d, e] := by
 match l, h with
 | [a, b, c, d, e], _ => exact ⟨a, b, c, d, e, rfl⟩
theorem open27 (h : DataW.trod enc Tryd.prog w base spare held fuel 27 cs = some x) : ∃ f, FR0 w (.agg cs.toArray) f := by
 obtain ⟨xs, n, _, _, hl, hxl, hf⟩ := DataW.trod_struct Tryd.underlying27 h
 have hl3 : cs.length = 3 := hl.trans (show Tryd.prog.cellsOf 27 = 3 by kernel_rfl)
 obtain ⟨a, b, c, rfl⟩ := list3 hl3
 obtain ⟨y0, y1, y2, rfl⟩ := list3 (hxl.trans rfl)
 have h0 : _ = some y0 := hf 0 _ rfl
 have h1 : _ = some y1 := hf 1 _ rfl
 have h2 : _ = some y2 := hf 2 _ rfl
 obtain ⟨s, e0, _⟩ := DataW.trod_bool Tryd.underlying4 h0
 obtain ⟨v1, n1, e1, r1, l1⟩ := open25 h1
 obtain ⟨v2, n2, e2, r2, l2⟩ := open25 h2
 have e0' : a = .bool s := by simpa [show Tryd.prog.cellsOf 4 = 1 by kernel_rfl] using e0
 have e1' : b = v1 := by simpa [show Tryd.prog.cellsOf 25 = 1 by kernel_rfl] using e1
 have e2' : c = v2 := by simpa [show Tryd.prog.cellsOf 25 = 1 by kernel_rfl] using e2
 subst e0' e1' e2'
 exact ⟨⟨s, n1, n2⟩, ⟨l1, l2⟩, _, _, rfl, r1, r2⟩
theorem open3 (h : DataW.trod enc Tryd.prog w base spare held fuel 3 cs = some x) : ∃ n, cs = [.int .i64 n] ∧ I64 n := by
 obtain ⟨z, e, _, hw⟩ := DataW.trod_int Tryd.underlying3 h
 have hw' : -(2 : Int) ^ 63 ≤ z ∧ z ≤ 2 ^ 63 - 1 := by simpa [Lit.wf, IntKind.min, IntKind.max, IntKind.signed, IntKind.bits] using hw
 exact ⟨z, e, by unfold I64; omega⟩
theorem list6 {α : Type} {l : List α} (h : l.length = 6) : ∃ a b c d e f, l = [a, b, c, d, e, f] := by
 match l, h with
 | [a, b, c, d, e, f], _ => exact ⟨a, b, c, d, e, f, rfl⟩
theorem open9 (h : DataW.trod enc Tryd.prog w base spare held fuel 9 cs = some x) : ∃ s : ByteArray, cs = [.string s] ∧ s.size ≤ 9223372036854775807 := by
 obtain ⟨s, e, _, hs⟩ := DataW.trod_string Tryd.underlying9 h
 exact ⟨s, e, ml_le hs⟩
theorem open24 (h : DataW.trod enc Tryd.prog w base spare held fuel 24 cs = some x) : ∃ (k r f : Int) (b s : ByteArray), cs = [.int .i64 k, .int .i64 r, .int .i64 f, .string b, .string s] ∧ (I64 k ∧ I64 r ∧ I64 f) ∧ b.size ≤ 9223372036854775807 ∧ s.size ≤ 9223372036854775807 := by
 obtain ⟨xs, n, _, _, hl, hxl, hf⟩ := DataW.trod_struct Tryd.underlying24 h
 have hl5 : cs.length = 5 := hl.trans (show Tryd.prog.cellsOf 24 = 5 by kernel_rfl)
 obtain ⟨a, b, c, d, e, rfl⟩ := list5 hl5
 obtain ⟨y0, y1, y2, y3, y4, rfl⟩ := list5 (hxl.trans rfl)
 have h0 : _ = some y0 := hf 0 _ rfl
 have h1 : _ = some y1 := hf 1 _ rfl
 have h2 : _ = some y2 := hf 2 _ rfl
 have h3 : _ = some y3 := hf 3 _ rfl
 have h4 : _ = some y4 := hf 4 _ rfl
 obtain ⟨k, e0, r0⟩ := open3 h0
 obtain ⟨r, e1, r1⟩ := open3 h1
 obtain ⟨f, e2, r2⟩ := open3 h2
 obtain ⟨s3, e3, r3⟩ := open9 h3
 obtain ⟨s4, e4, r4⟩ := open9 h4
 have e0' : a = .int .i64 k := by simpa [show Tryd.prog.cellsOf 3 = 1 by kernel_rfl] using e0
 have e1' : b = .int .i64 r := by simpa [show Tryd.prog.cellsOf 3 = 1 by kernel_rfl] using e1
 have e2' : c = .int .i64 f := by simpa [show Tryd.prog.cellsOf 3 = 1 by kernel_rfl] using e2
 have e3' : d = .string s3 := by simpa [show Tryd.prog.cellsOf 9 = 1 by kernel_rfl] using e3
 have e4' : e = .string s4 := by simpa [show Tryd.prog.cellsOf 9 = 1 by kernel_rfl] using e4
 subst e0' e1' e2' e3' e4'
 exact ⟨_, _, _, _, _, rfl, ⟨r0, r1, r2⟩, r3, r4⟩
theorem open29 (h : DataW.trod enc Tryd.prog w base spare held fuel 29 cs = some x) : ∃ (o k : Int) (s : ByteArray) (f : RawF) (A1 A2 : Option Addr) (c1 c2 : Nat), cs = [.int .i64 o, .int .i64 k, .string s, .bool f.neg, .slice A1 f.num.length c1, .slice A2 f.den.length c2] ∧ I64 k ∧ s.size ≤ 9223372036854775807 ∧ Hid (FR0 w (.agg #[.bool f.neg, .slice A1 f.num.length c1, .slice A2 f.den.length c2]) f) := by
 obtain ⟨xs, n, _, _, hl, hxl, hf⟩ := DataW.trod_struct Tryd.underlying29 h
 have hl6 : cs.length = 6 := hl.trans (show Tryd.prog.cellsOf 29 = 6 by kernel_rfl)
 obtain ⟨a, b, c, d, e, g, rfl⟩ := list6 hl6
 obtain ⟨y0, y1, y2, y3, rfl⟩ := list4 (hxl.trans rfl)
 have h0 : _ = some y0 := hf 0 _ rfl
 have h1 : _ = some y1 := hf 1 _ rfl
 have h2 : _ = some y2 := hf 2 _ rfl
 have h3 : _ = some y3 := hf 3 _ rfl
 obtain ⟨o, e0, r0⟩ := open3 h0
 obtain ⟨k, e1, r1⟩ := open3 h1
 obtain ⟨s, e2, r2⟩ := open9 h2
 obtain ⟨q, r3⟩ := open27 h3
 have e0' : a = .int .i64 o := by simpa [show Tryd.prog.cellsOf 3 = 1 by kernel_rfl] using e0
 have e1' : b = .int .i64 k := by simpa [show Tryd.prog.cellsOf 3 = 1 by kernel_rfl] using e1
 have e2' : c = .string s := by simpa [show Tryd.prog.cellsOf 9 = 1 by kernel_rfl] using e2
 subst e0' e1' e2'
 have e3 : (List.take (Tryd.prog.cellsOf 27) (List.drop 3 [.int .i64 o, .int .i64 k, .string s, d, e, g])).toArray = #[d, e, g] := by simp [show Tryd.prog.cellsOf 27 = 3 by kernel_rfl]
 replace r3 : FR0 w (.agg #[d, e, g]) q := by rw [← e3]; exact r3
 obtain ⟨A1, c1, A2, c2, e4, r4⟩ := r3.opened
 have e4' : d = .bool q.neg ∧ e = .slice A1 q.num.length c1 ∧ g = .slice A2 q.den.length c2 := by simpa using e4
 obtain ⟨rfl, rfl, rfl⟩ := e4'
 exact ⟨o, k, s, q, A1, A2, c1, c2, rfl, r1, r2, r4⟩
end
section
variable {H : Type} {enc : TypeId × Value → H} {w : World} {base b0 : Nat} {spare : Nat → Bool} {held : Bool} {r : Reach} {v : Value} {d : DataW H} {p : List MemPlace}
theorem cells9 : Tryd.prog.cellsOf 9 = 1 := by kernel_rfl
set_option maxRecDepth 100000 in
theorem arg22 (hv : Value.okWide Tryd.prog w r b0 22 v) (h0 : DataW.Trod enc Tryd.prog w base spare held 22 v d p) : ∃ ls, RdS w v ls ∧ ls.length ≤ 9223372036854775807 ∧ ∀ j, j < ls.length → (nthS ls j).size ≤ 9223372036854775807 := by
 obtain ⟨A, n, c, rfl⟩ := okWide_slice Tryd.underlying22 hv
 obtain ⟨_, hf⟩ := h0
 rcases Go.Deep.open_strs Tryd.underlying22 Tryd.underlying9 cells9 hf with ⟨hcs, _⟩ | ⟨a, len', cap', m, Sx, hcs, _, hl, hm, hmm, _, hcell⟩
 ·have hcs' : [Value.slice A n c] = [.slice none 0 0] := hcs
  simp only [List.cons.injEq, and_true, Value.slice.injEq] at hcs'
  obtain ⟨rfl, rfl, rfl⟩ := hcs'
  exact ⟨[], RdS.nil w, by simp, fun j hj => absurd hj (by simp)⟩
 ·have hcs' : [Value.slice A n c] = [.slice (some a) len' cap'] := hcs
  simp only [List.cons.injEq, and_true, Value.slice.injEq] at hcs'
  obtain ⟨rfl, rfl, rfl⟩ := hcs'
  have hlm : n ≤ m := by rw [hmm]; split <;> omega
  have hlen : ((List.range n).map Sx).length = n := by simp
  have hn : ∀ j, j < n → nthS ((List.range n).map Sx) j = Sx j := fun j hj => by
   simp only [nthS, List.getD_eq_getElem?_getD, List.getElem?_map, List.getElem?_range hj, Option.map_some, Option.getD_some]
  refine ⟨(List.range n).map Sx, ⟨some a, c, by rw [hlen], fun hp => ?_⟩, by rw [hlen]; unfold maxLen at hm; omega, fun j hj => ?_⟩
  ·rw [hlen] at hp ⊢
   have h00 := (hcell 0 (by omega)).1
   have hsp : a.spot = none := by
    simp only [Addr.add, if_true, World.cell?] at h00
    split at h00
    ·cases hx : a.spot with
     | none => rfl
     | some x => rw [hx] at h00; simp at h00
    ·cases h00
   obtain ⟨g, o, sp⟩ := a
   simp only at hsp
   subst hsp
   refine ⟨g, o, rfl, fun j hj => ?_⟩
   rw [hn j hj, ← (hcell j (by omega)).1, Go.WideShapes.add_plain]
  ·rw [hlen] at hj
   rw [hn j hj]
   have := (hcell j (by omega)).2
   unfold maxLen at this
   omega
set_option maxRecDepth 100000 in
theorem arg24 (hv : Value.okWide Tryd.prog w r b0 24 v) (h : DataW.Trod enc Tryd.prog w base spare held 24 v d p) : ∃ (k r f : Int) (b s : ByteArray), v = .agg #[.int .i64 k, .int .i64 r, .int .i64 f, .string b, .string s] ∧ (I64 k ∧ I64 r ∧ I64 f) ∧ b.size ≤ 9223372036854775807 ∧ s.size ≤ 9223372036854775807 := by
 obtain ⟨cs, rfl, _⟩ := okWide_struct Tryd.underlying24 hv
 obtain ⟨fuel, hf⟩ := h
 obtain ⟨k, r, f, b, s, e, h1⟩ := open24 hf
 have e' : cs.toList = [.int .i64 k, .int .i64 r, .int .i64 f, .string b, .string s] := e
 exact ⟨k, r, f, b, s, by rw [← Array.toArray_toList (xs := cs), e'], h1⟩
set_option maxRecDepth 100000 in
theorem arg29 (hv : Value.okWide Tryd.prog w r b0 29 v) (h : DataW.Trod enc Tryd.prog w base spare held 29 v d p) : ∃ (o k : Int) (s : ByteArray) (f : RawF) (A1 A2 : Option Addr) (c1 c2 : Nat), v = .agg #[.int .i64 o, .int .i64 k, .string s, .bool f.neg, .slice A1 f.num.length c1, .slice A2 f.den.length c2] ∧ I64 k ∧ s.size ≤ 9223372036854775807 ∧ Hid (FR0 w (.agg #[.bool f.neg, .slice A1 f.num.length c1, .slice A2 f.den.length c2]) f) := by
 obtain ⟨cs, rfl, _⟩ := okWide_struct Tryd.underlying29 hv
 obtain ⟨fuel, hf⟩ := h
 obtain ⟨o, k, s, f, A1, A2, c1, c2, e, h1⟩ := open29 hf
 have e' : cs.toList = [.int .i64 o, .int .i64 k, .string s, .bool f.neg, .slice A1 f.num.length c1, .slice A2 f.den.length c2] := e
 exact ⟨o, k, s, f, A1, A2, c1, c2, by rw [← Array.toArray_toList (xs := cs), e'], h1⟩
end
def GuardPost (w : World) (S : Prop) (e : Ending) (w' : World) : Prop := ∃ bb : Bool, e = .returned (.bool bb) ∧ Below w.heap.size w w' ∧ (bb = false → S)
theorem Blk.c5p {W : World} {g t : Nat} {a b c d e : Value} (h : Blk W g t #[a, b, c, d, e]) : W.cell? ⟨g, 0, none⟩ = some a ∧ W.cell? ⟨g, 1, none⟩ = some b ∧ W.cell? ⟨g, 2, none⟩ = some c ∧ W.cell? ⟨g, 3, none⟩ = some d ∧ W.cell? ⟨g, 4, none⟩ = some e := ⟨h.cell rfl, h.cell rfl, h.cell rfl, h.cell rfl, h.cell rfl⟩
set_option maxHeartbeats 16000000 in
set_option maxRecDepth 100000 in
theorem farWord_calls (w : World) (g : Nat) (k r f : Int) (b s : ByteArray) (h : Blk w g 24 #[.int .i64 k, .int .i64 r, .int .i64 f, .string b, .string s]) (hb : b.size ≤ 9223372036854775807) (hs : s.size ≤ 9223372036854775807) : Calls Tryd.prog 5 #[.slice (some ⟨g, 0, none⟩) 1 1] w fun e w' => GuardPost w (b.size ≤ 4000 ∧ s.size ≤ 4000) e w' := by
 have HK := Hd h
 have hlt := h.lt
 clear h
 go_enter Tryd.func5, Tryd.ntmps5
 go_wp2_with fail
 go_loopw [3] (fun vi wr => (vi = .int .i64 0 ∨ (vi = .int .i64 1 ∧ b.size ≤ 4000 ∧ s.size ≤ 4000)) ∧ Below w.heap.size w wr) (fun vi _ => 1 - (intOf vi).toNat)
 case atStart => exact ⟨Or.inl rfl, Below.refl _ _⟩
 case round =>
  obtain ⟨hv, hb⟩ := hrel
  have HB := Hd hb
  clear hb
  rcases hv with rfl | ⟨rfl, hS⟩
  ·obtain ⟨x0, x1, x2, x3, x4⟩ := (show Blk wr g 24 #[.int .i64 k, .int .i64 r, .int .i64 f, .string b, .string s] from HK.out.below HB.out hlt).c5p
   by_cases q1 : (b.size : Int) > 4000
   ·have u1 : decide ((b.size : Int) > 4000) = true := decide_eq_true q1
    clear q1
    go_wp2_with fail
    go_ret
    exact ⟨true, rfl, HB.out, by simp⟩
   have u1 : decide ((b.size : Int) > 4000) = false := decide_eq_false q1
   by_cases q2 : (s.size : Int) > 4000
   ·have u2 : decide ((s.size : Int) > 4000) = true := decide_eq_true q2
    clear q1 q2
    go_wp2_with fail
    go_ret
    exact ⟨true, rfl, HB.out, by simp⟩
   have u2 : decide ((s.size : Int) > 4000) = false := decide_eq_false q2
   have HS : Hid (b.size ≤ 4000 ∧ s.size ≤ 4000) := Hd ⟨by omega, by omega⟩
   clear q1 q2
   go_wp2_with fail
   go_roundw
   case rel => exact ⟨Or.inr ⟨rfl, HS.out⟩, HB.out⟩
   case measure => simp [intOf]
  ·have HS := Hd hS
   clear hS
   go_wp2_with fail
   go_ret
   exact ⟨false, rfl, HB.out, fun _ => HS.out⟩
set_option maxHeartbeats 16000000 in
set_option maxRecDepth 100000 in
theorem wide_calls (w : World) (g : Nat) (neg : Bool) (A1 A2 : Option Addr) (n1 n2 c1 c2 : Nat) (h : Blk w g 27 #[.bool neg, .slice A1 n1 c1, .slice A2 n2 c2]) (h1 : n1 ≤ 9223372036854775807) (h2 : n2 ≤ 9223372036854775807) : Calls Tryd.prog 6 #[.slice (some ⟨g, 0, none⟩) 1 1] w fun e w' => GuardPost w (n1 ≤ 6 ∧ n2 ≤ 6) e w' := by
 have HK := Hd h
 have hlt := h.lt
 clear h
 go_enter Tryd.func6, Tryd.ntmps6
 go_wp2_with fail
 go_loopw [3] (fun vi wr => (vi = .int .i64 0 ∨ (vi = .int .i64 1 ∧ n1 ≤ 6 ∧ n2 ≤ 6)) ∧ Below w.heap.size w wr) (fun vi _ => 1 - (intOf vi).toNat)
 case atStart => exact ⟨Or.inl rfl, Below.refl _ _⟩
 case round =>
  obtain ⟨hv, hb⟩ := hrel
  have HB := Hd hb
  clear hb
  rcases hv with rfl | ⟨rfl, hS⟩
  ·obtain ⟨x0, x1, x2⟩ := (show Blk wr g 27 #[.bool neg, .slice A1 n1 c1, .slice A2 n2 c2] from HK.out.below HB.out hlt).c3
   by_cases q1 : (n1 : Int) > 6
   ·have u1 : decide ((n1 : Int) > 6) = true := decide_eq_true q1
    clear q1
    go_wp2_with fail
    go_ret
    exact ⟨true, rfl, HB.out, by simp⟩
   have u1 : decide ((n1 : Int) > 6) = false := decide_eq_false q1
   by_cases q2 : (n2 : Int) > 6
   ·have u2 : decide ((n2 : Int) > 6) = true := decide_eq_true q2
    clear q1 q2
    go_wp2_with fail
    go_ret
    exact ⟨true, rfl, HB.out, by simp⟩
   have u2 : decide ((n2 : Int) > 6) = false := decide_eq_false q2
   have HS : Hid (n1 ≤ 6 ∧ n2 ≤ 6) := Hd ⟨by omega, by omega⟩
   clear q1 q2
   go_wp2_with fail
   go_roundw
   case rel => exact ⟨Or.inr ⟨rfl, HS.out⟩, HB.out⟩
   case measure => simp [intOf]
  ·have HS := Hd hS
   clear hS
   go_wp2_with fail
   go_ret
   exact ⟨false, rfl, HB.out, fun _ => HS.out⟩
theorem Blk.c6p {W : World} {g t : Nat} {a b c d e f : Value} (h : Blk W g t #[a, b, c, d, e, f]) : W.cell? ⟨g, 0, none⟩ = some a ∧ W.cell? ⟨g, 1, none⟩ = some b ∧ W.cell? ⟨g, 2, none⟩ = some c ∧ W.cell? ⟨g, 3, none⟩ = some d ∧ W.cell? ⟨g, 4, none⟩ = some e ∧ W.cell? ⟨g, 5, none⟩ = some f := ⟨h.cell rfl, h.cell rfl, h.cell rfl, h.cell rfl, h.cell rfl, h.cell rfl⟩
theorem alloc_size1 (w : World) (o : Obj) : (w.alloc o).heap.size = w.heap.size + 1 := by unfold World.alloc; exact Array.size_push _
theorem str_ne_self (x : ByteArray) : (!(x.toList == x.toList)) = false := by simp
theorem str_eq_self (x : ByteArray) : (x.toList == x.toList) = true := by simp
set_option maxHeartbeats 32000000 in
set_option maxRecDepth 100000 in
theorem pactSeals_calls (w : World) (v : Value) (ls : List ByteArray) (k r f : Int) (b s : ByteArray) (o kk : Int) (salt : ByteArray) (fr : RawF) (A1 A2 : Option Addr) (c1 c2 : Nat) (hT : Tabs w) (hl : RdS w v ls) (hm : ls.length ≤ 9223372036854775807) (hz : ∀ j, j < ls.length → (nthS ls j).size ≤ 9223372036854775807) (hi : I64 k ∧ I64 r ∧ I64 f) (hb : b.size ≤ 9223372036854775807) (hs : s.size ≤ 9223372036854775807) (hk : I64 kk) (hsa : salt.size ≤ 9223372036854775807) (hf : Hid (FR0 w (.agg #[.bool fr.neg, .slice A1 fr.num.length c1, .slice A2 fr.den.length c2]) fr)) : Calls Tryd.prog 3 #[v, .agg #[.int .i64 k, .int .i64 r, .int .i64 f, .string b, .string s], .agg #[.int .i64 o, .int .i64 kk, .string salt, .bool fr.neg, .slice A1 fr.num.length c1, .slice A2 fr.den.length c2]] w fun e w' => LawPost w e w' := by
 have HL := Hd hl
 have HI : Hid ((-9223372036854775808 ≤ k ∧ k < 9223372036854775808) ∧ (-9223372036854775808 ≤ r ∧ r < 9223372036854775808) ∧ (-9223372036854775808 ≤ f ∧ f < 9223372036854775808)) := Hd (by have := hi; unfold I64 at this; omega)
 have HKK : Hid (-9223372036854775808 ≤ kk ∧ kk < 9223372036854775808) := Hd (by have := hk; unfold I64 at this; omega)
 obtain ⟨A, c, rfl, hc⟩ := hl
 have hn1 := hf.out.lens.1
 have hn2 := hf.out.lens.2
 obtain ⟨n1, e1⟩ : ∃ n, n = fr.num.length := ⟨_, rfl⟩
 obtain ⟨n2, e2⟩ : ∃ n, n = fr.den.length := ⟨_, rfl⟩
 rw [← e1] at hf hn1 ⊢
 rw [← e2] at hf hn2 ⊢
 have E1 := Hd e1
 have E2 := Hd e2
 have HZ := Hd hz
 have HM := Hd hm
 clear hc hi hk e1 e2 hz hm
 go_enter Tryd.func3, Tryd.ntmps3
 go_wp2_with fail
 have hn := below_new w (.cells #[.int .i64 k, .int .i64 r, .int .i64 f, .string b, .string s] 24)
 have hn' := below_new (w.alloc (.cells #[.int .i64 k, .int .i64 r, .int .i64 f, .string b, .string s] 24)) (.cells #[.int .i64 o, .int .i64 kk, .string salt, .bool fr.neg, .slice A1 n1 c1, .slice A2 n2 c2] 29)
 have HB0 := Hd (below_next hn hn')
 have KW := Hd ((Blk.new w 24 #[.int .i64 k, .int .i64 r, .int .i64 f, .string b, .string s]).alloc (.cells #[.int .i64 o, .int .i64 kk, .string salt, .bool fr.neg, .slice A1 n1 c1, .slice A2 n2 c2] 29))
 have KO := Hd (Blk.new (w.alloc (.cells #[.int .i64 k, .int .i64 r, .int .i64 f, .string b, .string s] 24)) 29 #[.int .i64 o, .int .i64 kk, .string salt, .bool fr.neg, .slice A1 n1 c1, .slice A2 n2 c2])
 rw [alloc_size1] at KO
 obtain ⟨go, hgo⟩ : ∃ g, g = w.heap.size + 1 := ⟨_, rfl⟩
 obtain ⟨gw, hgw⟩ : ∃ g, g = w.heap.size := ⟨_, rfl⟩
 rw [← hgo] at KO ⊢
 rw [← hgw] at KW ⊢
 generalize (w.alloc (.cells #[.int .i64 k, .int .i64 r, .int .i64 f, .string b, .string s] 24)).alloc (.cells #[.int .i64 o, .int .i64 kk, .string salt, .bool fr.neg, .slice A1 n1 c1, .slice A2 n2 c2] 29) = W0 at *
 clear hn hn' hgw hgo
 have HT0 := Hd (hT.below HB0.out)
 have HL0 := Hd (HL.out.below HB0.out)
 have HF0 := Hd (FR0.of_below hf.out HB0.out)
 have ltw := KW.out.lt
 have lto := KO.out.lt
 clear hT HL hf
 refine (far_calls W0 _ ls 100 HL0.out HM.out HZ.out).mono ?_
 rintro e w1 ⟨b1, rfl, rfl, hfar⟩
 cases b1 with
 | true =>
  clear hfar
  go_wp2_with fail
  go_ret
  exact ⟨rfl, HB0.out⟩
 | false =>
  obtain ⟨h20, h100⟩ := hfar rfl
  have HL100 := Hd h100
  clear hfar h100 HZ HM
  obtain ⟨x0, x1, x2, x3, x4⟩ := (show Blk _ gw 24 #[.int .i64 k, .int .i64 r, .int .i64 f, .string b, .string s] from KW.out).c5'
  go_wp2_with fail
  clear x0 x1 x2 x3 x4
  have hn := below_new W0 (.cells #[.int .i64 k, .int .i64 r, .int .i64 f, .string b, .string s] 24)
  refine (farWord_calls _ _ k r f b s (Blk.new W0 24 #[.int .i64 k, .int .i64 r, .int .i64 f, .string b, .string s]) hb hs).mono ?_
  rintro e w2 ⟨b2, rfl, hb2, hsm⟩
  have U2 := Hd (below_next hn hb2)
  clear hn hb2
  cases b2 with
  | true =>
   clear hsm
   go_wp2_with fail
   go_ret
   exact ⟨rfl, below_next HB0.out U2.out⟩
  | false =>
   obtain ⟨hb4, hs4⟩ := hsm rfl
   clear hsm hb hs
   obtain ⟨y0, y1, y2, y3, y4, y5⟩ := (show Blk _ go 29 #[.int .i64 o, .int .i64 kk, .string salt, .bool fr.neg, .slice A1 n1 c1, .slice A2 n2 c2] from KO.out.below U2.out lto).c6p
   by_cases q : (salt.size : Int) > 300
   ·have u1 : decide ((salt.size : Int) > 300) = true := decide_eq_true q
    clear q
    go_wp2_with fail
    go_ret
    exact ⟨rfl, below_next HB0.out U2.out⟩
   have u1 : decide ((salt.size : Int) > 300) = false := decide_eq_false q
   have hs5 : salt.size ≤ 100000 := by omega
   have hb5 : b.size ≤ 100000 := by omega
   clear q hs4 hb4
   go_wp2_with fail
   clear y0 y1 y2 y3 y4 y5 u1
   have hn := below_new w2 (.cells #[.bool fr.neg, .slice A1 n1 c1, .slice A2 n2 c2] 27)
   refine (wide_calls _ _ fr.neg A1 A2 n1 n2 c1 c2 (Blk.new w2 27 #[.bool fr.neg, .slice A1 n1 c1, .slice A2 n2 c2]) hn1 hn2).mono ?_
   rintro e w3 ⟨b3, rfl, hb3, hsm⟩
   have U3 := Hd (below_next U2.out (below_next hn hb3))
   clear hn hb3
   cases b3 with
   | true =>
    clear hsm
    go_wp2_with fail
    go_ret
    exact ⟨rfl, below_next HB0.out U3.out⟩
   | false =>
    have hsm' := hsm rfl
    have HF : Hid (FR W0 (.agg #[.bool fr.neg, .slice A1 n1 c1, .slice A2 n2 c2]) fr) := HF0.out.full (by rw [← E1.out, ← E2.out]; omega)
    clear hsm hsm' HF0 hn1 hn2 hsa
    go_wp2_with fail
    go_loopw [7] (fun vi wr => ∃ i : Nat, i ≤ ls.length ∧ vi = .int .i64 (i : Int) ∧ Below W0.heap.size W0 wr) (fun vi _ => ls.length - (intOf vi).toNat)
    case atStart => exact ⟨0, Nat.zero_le _, rfl, U3.out⟩
    case round =>
     obtain ⟨i, hi2, rfl, hbr⟩ := hrel
     have BR := Hd hbr
     clear hbr
     by_cases hlt : i < ls.length
     ·obtain ⟨A', c', e', hc'⟩ := HL0.out.below BR.out
      injection e' with e1' e2' e3'
      subst e1'
      clear e2' e3'
      obtain ⟨g, oo, rfl, hcell⟩ := hc' (by omega)
      have hce := hcell i hlt
      clear hcell hc'
      obtain ⟨key, hkey⟩ : ∃ key, key = nthS ls i := ⟨_, rfl⟩
      rw [← hkey] at hce
      obtain ⟨dg, hdg⟩ : ∃ dg, dg = digP (sealL key k r f b) := ⟨_, rfl⟩
      have hks : key.size ≤ 100000 := by
       have := HL100.out i hlt
       rw [← hkey] at this
       omega
      have hc1 : ∀ W, Tabs W → Calls Tryd.prog 7 #[.string key, .agg #[.int .i64 k, .int .i64 r, .int .i64 f, .string b, .string s]] W fun e w' => StrPost W dg e w' := by
       intro W hT
       rw [hdg]
       exact seal_calls W key b s k r f hT HI.out.1.1 HI.out.1.2 HI.out.2.1.1 HI.out.2.1.2 HI.out.2.2.1 HI.out.2.2.2 hks hb5
      have hc2 : ∀ W, Calls Tryd.prog 8 #[.string key, .agg #[.int .i64 k, .int .i64 r, .int .i64 f, .string b, .string s]] W fun e w' => StrPost W dg e w' := by
       intro W
       rw [hdg]
       exact rseal_calls W key b s k r f HI.out.1.1 HI.out.1.2 HI.out.2.1.1 HI.out.2.1.2 HI.out.2.2.1 HI.out.2.2.2 hks hb5
      have HC1 := Hd hc1
      have HC2 := Hd hc2
      clear hc1 hc2 hdg hkey hks
      obtain ⟨x0, x1, x2, x3, x4⟩ := (show Blk _ gw 24 #[.int .i64 k, .int .i64 r, .int .i64 f, .string b, .string s] from KW.out.below BR.out ltw).c5'
      have m1 : (i : Int) < (ls.length : Int) := by omega
      have m3 : (i : Int).toNat = i := by omega
      have m4 : (0 : Int) ≤ (i : Int) := by omega
      have m5 := str_ne_self dg
      have HTR := Hd (HT0.out.below BR.out)
      have hlw : gw < wr.heap.size := Nat.lt_of_lt_of_le ltw BR.out.size
      have hlg : g < wr.heap.size := World.block_lt_of_cell? wr _ hce
      go_wp2_with fail
      refine wp_chainS (S := Below wr.heap.size wr) [([0, 1, 2, 3, 4, 6, 7, 8, 9, 10], 5), ([], 11)] [12] (by kernel_rfl) (by kernel_rfl) (by kernel_rfl) rfl (Below.drew (Below.refl _ _)) ?_
      refine ⟨?_, _, ?_, rfl, ?_⟩
      rotate_left
      ·(iterate 10 ((refine ⟨_, ?_, rfl, Or.inl ⟨by rfl, ?_⟩, ?_⟩; rotate_left; focus (intro W hW; replace hW := (bcell hW).1; go_simp; try with_reducible rfl)); (try simp only [SQ])))
       exact rfl
      have V0 : Hid (Below wr.heap.size wr wr.drew) := Below.drew (Below.refl _ _)
      clear x0 x1 x2 x3 x4 hce
      go_wp2_with fail
      refine (HC1.out _ (HTR.out.below V0.out)).mono ?_
      rintro e w4 ⟨rfl, hb⟩
      have V1 := Hd (below_next V0.out hb)
      clear hb
      go_wp2_with fail
      refine And.intro V1.out ⟨_, _, rfl, rfl, ?_⟩
      go_wp2_with fail
      refine (HC2.out _).mono ?_
      rintro e w5 ⟨rfl, hb⟩
      have V2 := Hd (below_next V1.out hb)
      clear hb
      go_wp2_with fail
      refine And.intro V2.out ?_
      refine ⟨?_, ?_, ?_⟩
      rotate_left
      ·((refine ⟨_, ?_, rfl, Or.inl ⟨by rfl, ?_⟩, ?_⟩; rotate_left; focus (intro W hW; replace hW := (bcell hW).1; go_simp; try with_reducible rfl)); (try simp only [SQ]))
       exact rfl
      refine NoPanic.normal ?_
      go_wp2_with fail
      go_roundw
      case rel => exact ⟨i + 1, by omega, by go_num, below_next BR.out V2.out⟩
      case measure => simp [intOf]; omega
     ·
      have hi3 : i = ls.length := by omega
      obtain ⟨sb, hsb⟩ : ∃ sb, sb = sealedB ls k r f b s := ⟨_, rfl⟩
      obtain ⟨dg, hdg⟩ : ∃ dg, dg = digP (hidL salt kk (fixQ fr)) := ⟨_, rfl⟩
      have hc1 : ∀ W, Tabs W → RdS W (.slice A ls.length c) ls → Calls Tryd.prog 9 #[.slice A ls.length c, .agg #[.int .i64 k, .int .i64 r, .int .i64 f, .string b, .string s]] W fun e w' => BPost W sb e w' := by
       intro W hT hl
       rw [hsb]
       exact sealed_calls W _ ls b s k r f hT hl (by omega) HI.out.1.1 HI.out.1.2 HI.out.2.1.1 HI.out.2.1.2 HI.out.2.2.1 HI.out.2.2.2 (fun j hj => by have := HL100.out j hj; omega) hb5
      have hc2 : ∀ W, RdS W (.slice A ls.length c) ls → Calls Tryd.prog 10 #[.slice A ls.length c, .agg #[.int .i64 k, .int .i64 r, .int .i64 f, .string b, .string s]] W fun e w' => BPost W sb e w' := by
       intro W hl
       rw [hsb]
       exact rsealed_calls W _ ls b s k r f hl (by omega) HI.out.1.1 HI.out.1.2 HI.out.2.1.1 HI.out.2.1.2 HI.out.2.2.1 HI.out.2.2.2 (fun j hj => by have := HL100.out j hj; omega) hb5
      have hc3 : ∀ W, Tabs W → FR W (.agg #[.bool fr.neg, .slice A1 n1 c1, .slice A2 n2 c2]) fr → Calls Tryd.prog 11 #[.string salt, .int .i64 kk, .agg #[.bool fr.neg, .slice A1 n1 c1, .slice A2 n2 c2]] W fun e w' => StrPost W dg e w' := by
       intro W hT h
       rw [hdg]
       exact hidden_calls W salt kk _ fr hT HKK.out.1 HKK.out.2 hs5 h
      have hc4 : ∀ W, FR W (.agg #[.bool fr.neg, .slice A1 n1 c1, .slice A2 n2 c2]) fr → Calls Tryd.prog 12 #[.string salt, .int .i64 kk, .agg #[.bool fr.neg, .slice A1 n1 c1, .slice A2 n2 c2]] W fun e w' => StrPost W dg e w' := by
       intro W h
       rw [hdg]
       exact rhidden_calls W salt kk _ fr HKK.out.1 HKK.out.2 hs5 h
      have HC1 := Hd hc1
      have HC2 := Hd hc2
      have HC3 := Hd hc3
      have HC4 := Hd hc4
      have HLR := Hd (HL0.out.below BR.out)
      have HFR := Hd (HF.out.of_below BR.out)
      clear hc1 hc2 hc3 hc4 hdg hsb hb5 hs5
      obtain ⟨x0, x1, x2, x3, x4⟩ := (show Blk _ gw 24 #[.int .i64 k, .int .i64 r, .int .i64 f, .string b, .string s] from KW.out.below BR.out ltw).c5'
      obtain ⟨y0, y1, y2, y3, y4, y5⟩ := (show Blk _ go 29 #[.int .i64 o, .int .i64 kk, .string salt, .bool fr.neg, .slice A1 n1 c1, .slice A2 n2 c2] from KO.out.below BR.out lto).c6p
      have m1 : (i : Int) = (ls.length : Int) := by omega
      have m5 := str_eq_self dg
      have m6 : (sb == sb) = true := by simp
      have HTR := Hd (HT0.out.below BR.out)
      have hlw : gw < wr.heap.size := Nat.lt_of_lt_of_le ltw BR.out.size
      have hlo : go < wr.heap.size := Nat.lt_of_lt_of_le lto BR.out.size
      subst hi3
      clear hi2 hlt m1
      go_wp2_with fail
      refine wp_chainS (S := Below wr.heap.size wr) [([0, 1, 3, 4], 2), ([], 5), ([6, 7, 8, 9, 10, 11, 12, 13, 15, 16, 17, 18, 19, 20], 14), ([], 21), ([22, 23, 24], 25)] [26, 27] (by kernel_rfl) (by kernel_rfl) (by kernel_rfl) rfl (Below.drew (Below.refl _ _)) ?_
      refine ⟨?_, _, ?_, rfl, ?_⟩
      rotate_left
      ·(iterate 4 ((refine ⟨_, ?_, rfl, Or.inl ⟨by rfl, ?_⟩, ?_⟩; rotate_left; focus (intro W hW; replace hW := (bcell hW).1; go_simp; try with_reducible rfl)); (try simp only [SQ])))
       exact rfl
      have V0 : Hid (Below wr.heap.size wr wr.drew) := Below.drew (Below.refl _ _)
      clear x0 x1 x2 x3 x4
      go_wp2_with fail
      refine (HC1.out _ (HTR.out.below V0.out) (HLR.out.below V0.out)).mono ?_
      rintro e w4 ⟨rfl, hb⟩
      have V1 := Hd (below_next V0.out hb)
      clear hb
      go_wp2_with fail
      refine And.intro V1.out ⟨_, _, rfl, rfl, ?_⟩
      go_wp2_with fail
      refine (HC2.out _ (HLR.out.below V1.out)).mono ?_
      rintro e w5 ⟨rfl, hb⟩
      have V2 := Hd (below_next V1.out hb)
      clear hb
      go_wp2_with fail
      refine And.intro V2.out ⟨?_, _, ?_, rfl, ?_⟩
      rotate_left
      ·(iterate 14 ((refine ⟨_, ?_, rfl, Or.inl ⟨by rfl, ?_⟩, ?_⟩; rotate_left; focus (intro W hW; replace hW := (bcell hW).1; go_simp; try with_reducible rfl)); (try simp only [SQ])))
       exact rfl
      clear y0 y1 y2 y3 y4 y5
      go_wp2_with fail
      refine (HC3.out _ (HTR.out.below V2.out) (HFR.out.of_below V2.out)).mono ?_
      rintro e w6 ⟨rfl, hb⟩
      have V3 := Hd (below_next V2.out hb)
      clear hb
      go_wp2_with fail
      refine And.intro V3.out ⟨_, _, rfl, rfl, ?_⟩
      go_wp2_with fail
      refine (HC4.out _ (HFR.out.of_below V3.out)).mono ?_
      rintro e w7 ⟨rfl, hb⟩
      have V4 := Hd (below_next V3.out hb)
      clear hb
      go_wp2_with fail
      refine And.intro V4.out ⟨?_, _, ?_, rfl, ?_⟩
      rotate_left
      ·(iterate 3 ((refine ⟨_, ?_, rfl, Or.inl ⟨by rfl, ?_⟩, ?_⟩; rotate_left; focus (intro W hW; replace hW := (bcell hW).1; go_simp; try with_reducible rfl)); (try simp only [SQ])))
       exact rfl
      go_wp2_with fail
      refine (awake_calls _ (HTR.out.below V4.out).rounds).mono ?_
      rintro e w8 ⟨rfl, hb⟩
      have V5 := Hd (below_next V4.out hb)
      clear hb
      go_wp2_with fail
      refine And.intro V5.out ?_
      refine ⟨?_, ?_, ?_⟩
      rotate_left
      ·(iterate 2 ((refine ⟨_, ?_, rfl, Or.inl ⟨by rfl, ?_⟩, ?_⟩; rotate_left; focus (intro W hW; replace hW := (bcell hW).1; go_simp; try with_reducible rfl)); (try simp only [SQ])))
       exact rfl
      refine NoPanic.normal ?_
      go_wp2_with fail
      go_ret
      exact ⟨rfl, below_next HB0.out (below_next BR.out V5.out)⟩
end Go.Proofs.YthpkoidlpfllaaaDoor

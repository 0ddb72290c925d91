/- Contracts of the Go functions that the statement reaches, and plain laws over them. -/
import Derived.Deep.Slices
import Derived.Deep.Fields
import Derived.ChangeSame
import Derived.Deep.Strs
import Derived.Test.YtfhambfgjigneaaKT4
import Derived.Test.YtfhambfgjigneaaKT3
set_option linter.unusedVariables false
set_option linter.unusedSimpArgs false
set_option maxHeartbeats 64000000
set_option maxRecDepth 100000
namespace Go.Proofs.Ytfhambfgjigneaa
open Go.RowKit
open Go.ChangeShapes Go.WideShapes Go.Deep
section
variable {H : Type} {enc : TypeId × Value → H} {P : Program} {w : World} {base : Nat} {spare : Nat → Bool} {held : Bool}
theorem plain_of_cell {a : Addr} {v : Value} (h : w.cell? a = some v) : a.spot = none := by
 simp only [World.cell?] at h
 split at h
 ·cases hx : a.spot with
  | none => rfl
  | some x => rw [hx] at h; simp at h
 ·cases h
theorem open_sl {α : Type} {E : World → Array Value → α → Prop} {k : Nat} {t e : TypeId} {fuel : Nat} {cs : List Value} {x : DataW H × List MemPlace} (ht : P.underlying t = some (.slice e)) (hc : P.cellsOf e = k) (hk : 0 < k)
  (hE : ∀ (n : Nat) (cs' : List Value) (y : DataW H × List MemPlace), DataW.trod enc P w base spare held n e cs' = some y → cs'.length = k → ∃ a, E w cs'.toArray a)
  (h : DataW.trod enc P w base spare held fuel t cs = some x) : ∃ v xs, cs = [v] ∧ SL k E w v xs ∧ xs.length ≤ maxLen := by
 rcases open_slice ht h with ⟨rfl, _⟩ | ⟨a, len, cap, m, n, D, Pl, rfl, _, hl, hm, hmm, _, hi⟩
 ·exact ⟨_, [], rfl, ⟨none, 0, rfl, Nat.le_refl _, fun h => absurd h (Nat.lt_irrefl _)⟩, Nat.zero_le _⟩
 ·rw [hc] at hi
  have hlm : len ≤ m := by rw [hmm]; split <;> omega
  have each : ∀ i : Fin len, ∃ b : α, ∃ cs' : List Value, cs'.length = k ∧ E w cs'.toArray b ∧ ∀ j, j < k → w.cell? (a.add (i.val * k + j)) = cs'[j]? := fun i => by
   obtain ⟨cs', h1, h2⟩ := hi i.val (by have := i.isLt; omega)
   obtain ⟨_, h3, h4⟩ := World.cells?_some h1
   obtain ⟨b, hb⟩ := hE n cs' _ h2 h3
   exact ⟨b, cs', h3, hb, fun j hj => by rw [← h4 j hj, add_add]⟩
  refine ⟨_, List.ofFn fun i => (each i).choose, rfl, ⟨some a, cap, by rw [List.length_ofFn], by rw [List.length_ofFn]; exact hl, fun hp => ?_⟩, by rw [List.length_ofFn]; omega⟩
  rw [List.length_ofFn] at hp
  obtain ⟨cs0, h0, _, h1⟩ := (each ⟨0, hp⟩).choose_spec
  have hc0 := h1 0 hk
  rw [geq (by omega)] at hc0
  have ha0 : a.add (0 * k + 0) = a := by rw [Nat.zero_mul]; rfl
  simp only [ha0] at hc0
  have hsp := plain_of_cell hc0
  obtain ⟨g, o, sp⟩ := a
  simp only at hsp
  subst hsp
  refine ⟨g, o, rfl, World.block_lt_of_cell? w _ hc0, fun j y hj => ?_⟩
  obtain ⟨hjl, e⟩ := List.getElem?_eq_some_iff.1 hj
  rw [List.length_ofFn] at hjl
  rw [List.getElem_ofFn] at e
  obtain ⟨cs', h2, h3, h4⟩ := (each ⟨j, hjl⟩).choose_spec
  rw [e] at h3
  refine ⟨cs'.toArray, by simpa using h2, fun i v hv => ?_, h3⟩
  have hil : i < k := by
   have := (Array.getElem?_eq_some_iff.1 hv).1
   simp at this
   omega
  have h5 := h4 i hil
  rw [add_plain] at h5
  simp only at h5
  rw [show o + j * k + i = o + (j * k + i) by omega, h5]
  simpa using hv
end
section
variable {H : Type} {enc : TypeId × Value → H} {w : World} {base : Nat} {spare : Nat → Bool} {held : Bool} {fuel : Nat} {cs : List Value} {x : DataW H × List MemPlace}
theorem ml_le {n : Nat} (h : n ≤ maxLen) : n ≤ 9223372036854775807 := by unfold maxLen at h; omega
theorem open38 (h : DataW.trod enc Try.prog w base spare held fuel 38 cs = some x) : ∃ v xs, cs = [v] ∧ Rd w v xs ∧ xs.length ≤ 9223372036854775807 := by
 obtain ⟨v, ns, hv, hs, hl⟩ := open_sl (α := Nat) (E := fun w vs n => n < 4294967296 ∧ vs = #[.int .u32 (n : Int)]) (k := 1) Try.underlying38 (by kernel_rfl) (by decide) (fun n cs' y hy hlen => by
  obtain ⟨z, rfl, _, hw⟩ := DataW.trod_int Try.underlying103 hy
  have hw' : (0 : Int) ≤ z ∧ z ≤ 2 ^ 32 - 1 := by simpa [Lit.wf, IntKind.min, IntKind.max, IntKind.signed, IntKind.bits] using hw
  exact ⟨z.toNat, by omega, by rw [Int.toNat_of_nonneg hw'.1]⟩) h
 refine ⟨v, ns, hv, ?_, ml_le hl⟩
 obtain ⟨A, c, e, hc, hr⟩ := hs
 have hwd : Wd ns := fun n hn => by
  obtain ⟨j, hj⟩ := List.getElem?_of_mem hn
  obtain ⟨g, o, _, _, he⟩ := hr (by have := (List.getElem?_eq_some_iff.1 hj).1; omega)
  obtain ⟨vs, _, _, h3, _⟩ := he j n hj
  exact h3
 refine ⟨hwd, A, c, e, hc, fun hp => ?_⟩
 obtain ⟨g, o, hA, hg, he⟩ := hr hp
 refine ⟨g, o, hA, hg, fun j hj => ?_⟩
 obtain ⟨vs, _, h2, _, rfl⟩ := he j _ (geq hj)
 have := h2 0 _ rfl
 rw [Nat.mul_one, Nat.add_zero] at this
 rw [this]
 unfold nat
 rw [gdd, geq hj]
 rfl
theorem list3 {α : Type} {l : List α} (h : l.length = 3) : ∃ a b c, l = [a, b, c] := by
 match l, h with
 | [a, b, c], _ => exact ⟨a, b, c, rfl⟩
theorem list4 {α : Type} {l : List α} (h : l.length = 4) : ∃ a b c d, l = [a, b, c, d] := by
 match l, h with
 | [a, b, c, d], _ => exact ⟨a, b, c, d, rfl⟩
theorem list5 {α : Type} {l : List α} (h : l.length = 5) : ∃ a b c d e, l = [a, b, c, d, e] := by
 match l, h with
 | [a, b, c, d, e], _ => exact ⟨a, b, c, d, e, rfl⟩
theorem open40 (h : DataW.trod enc Try.prog w base spare held fuel 40 cs = some x) : ∃ f, FR0 w (.agg cs.toArray) f := by
 obtain ⟨xs, n, _, _, hl, hxl, hf⟩ := DataW.trod_struct Try.underlying40 h
 have hl3 : cs.length = 3 := hl.trans (show Try.prog.cellsOf 40 = 3 by kernel_rfl)
 obtain ⟨a, b, c, rfl⟩ := list3 hl3
 obtain ⟨y0, y1, y2, rfl⟩ := list3 (hxl.trans rfl)
 have h0 : _ = some y0 := hf 0 _ rfl
 have h1 : _ = some y1 := hf 1 _ rfl
 have h2 : _ = some y2 := hf 2 _ rfl
 obtain ⟨s, e0, _⟩ := DataW.trod_bool Try.underlying4 h0
 obtain ⟨v1, n1, e1, r1, l1⟩ := open38 h1
 obtain ⟨v2, n2, e2, r2, l2⟩ := open38 h2
 have e0' : a = .bool s := by simpa [show Try.prog.cellsOf 4 = 1 by kernel_rfl] using e0
 have e1' : b = v1 := by simpa [show Try.prog.cellsOf 38 = 1 by kernel_rfl] using e1
 have e2' : c = v2 := by simpa [show Try.prog.cellsOf 38 = 1 by kernel_rfl] using e2
 subst e0' e1' e2'
 exact ⟨⟨s, n1, n2⟩, ⟨l1, l2⟩, _, _, rfl, r1, r2⟩
theorem open23 (h : DataW.trod enc Try.prog w base spare held fuel 23 cs = some x) : ∃ v fs, cs = [v] ∧ FL0 w v fs ∧ fs.length ≤ 9223372036854775807 := by
 obtain ⟨v, fs, e, hs, hl⟩ := open_sl (E := EF0) (k := 3) Try.underlying23 (by kernel_rfl) (by decide) (fun n cs' y hy _ => open40 hy) h
 exact ⟨v, fs, e, hs, ml_le hl⟩
theorem open22 (h : DataW.trod enc Try.prog w base spare held fuel 22 cs = some x) : ∃ v bs, cs = [v] ∧ BL w v bs ∧ bs.length ≤ 9223372036854775807 := by
 obtain ⟨v, fs, e, hs, hl⟩ := open_sl (E := EB) (k := 1) Try.underlying22 (by kernel_rfl) (by decide) (fun n cs' y hy _ => by
  obtain ⟨b, rfl, _⟩ := DataW.trod_bool Try.underlying4 hy
  exact ⟨b, rfl⟩) h
 exact ⟨v, fs, e, hs, ml_le hl⟩
theorem open3 (h : DataW.trod enc Try.prog w base spare held fuel 3 cs = some x) : ∃ n, cs = [.int .i64 n] ∧ I64 n := by
 obtain ⟨z, e, _, hw⟩ := DataW.trod_int Try.underlying3 h
 have hw' : -(2 : Int) ^ 63 ≤ z ∧ z ≤ 2 ^ 63 - 1 := by simpa [Lit.wf, IntKind.min, IntKind.max, IntKind.signed, IntKind.bits] using hw
 exact ⟨z, e, by unfold I64; omega⟩
theorem open65 (h : DataW.trod enc Try.prog w base spare held fuel 65 cs = some x) : ∃ r, ER0 w cs.toArray r := by
 obtain ⟨xs, n, _, _, hl, hxl, hf⟩ := DataW.trod_struct Try.underlying65 h
 have hl5 : cs.length = 5 := hl.trans (show Try.prog.cellsOf 65 = 5 by kernel_rfl)
 obtain ⟨a, b, c, d, e, rfl⟩ := list5 hl5
 obtain ⟨y0, y1, y2, rfl⟩ := list3 (hxl.trans rfl)
 have h0 : _ = some y0 := hf 0 _ rfl
 have h1 : _ = some y1 := hf 1 _ rfl
 have h2 : _ = some y2 := hf 2 _ rfl
 obtain ⟨v1, fs, e1, r1, l1⟩ := open23 h0
 obtain ⟨s, e2, r2⟩ := open3 h1
 obtain ⟨f, r3⟩ := open40 h2
 have e1' : a = v1 := by simpa [show Try.prog.cellsOf 23 = 1 by kernel_rfl] using e1
 have e2' : b = .int .i64 s := by simpa [show Try.prog.cellsOf 3 = 1 by kernel_rfl] using e2
 subst e1' e2'
 have e3 : (List.take (Try.prog.cellsOf 40) (List.drop 2 [a, .int .i64 s, c, d, e])).toArray = #[c, d, e] := by simp [show Try.prog.cellsOf 40 = 3 by kernel_rfl]
 replace r3 : FR0 w (.agg #[c, d, e]) f := by rw [← e3]; exact r3
 obtain ⟨A1, c1, A2, c2, e4, r4⟩ := r3.opened
 have e4' : c = .bool f.neg ∧ d = .slice A1 f.num.length c1 ∧ e = .slice A2 f.den.length c2 := by simpa using e4
 obtain ⟨rfl, rfl, rfl⟩ := e4'
 exact ⟨⟨fs, s, f⟩, l1, _, _, _, _, _, _, _, rfl, r2, r1, r3⟩
theorem open24 (h : DataW.trod enc Try.prog w base spare held fuel 24 cs = some x) : ∃ v rs, cs = [v] ∧ RL0 w v rs ∧ rs.length ≤ 9223372036854775807 := by
 obtain ⟨v, fs, e, hs, hl⟩ := open_sl (E := ER0) (k := 5) Try.underlying24 (by kernel_rfl) (by decide) (fun n cs' y hy _ => open65 hy) h
 exact ⟨v, fs, e, hs, ml_le hl⟩
theorem open26 (h : DataW.trod enc Try.prog w base spare held fuel 26 cs = some x) : ∃ p, PG0 w (.agg cs.toArray) p := by
 obtain ⟨xs, n, _, _, hl, hxl, hf⟩ := DataW.trod_struct Try.underlying26 h
 have hl4 : cs.length = 4 := hl.trans (show Try.prog.cellsOf 26 = 4 by kernel_rfl)
 obtain ⟨a, b, c, d, rfl⟩ := list4 hl4
 obtain ⟨y0, y1, y2, y3, rfl⟩ := list4 (hxl.trans rfl)
 have h0 : _ = some y0 := hf 0 _ rfl
 have h1 : _ = some y1 := hf 1 _ rfl
 have h2 : _ = some y2 := hf 2 _ rfl
 have h3 : _ = some y3 := hf 3 _ rfl
 obtain ⟨n, e0, r0⟩ := open3 h0
 obtain ⟨v1, bs, e1, r1, l1⟩ := open22 h1
 obtain ⟨v2, fs, e2, r2, l2⟩ := open23 h2
 obtain ⟨v3, rs, e3, r3, l3⟩ := open24 h3
 have e0' : a = .int .i64 n := by simpa [show Try.prog.cellsOf 3 = 1 by kernel_rfl] using e0
 have e1' : b = v1 := by simpa [show Try.prog.cellsOf 22 = 1 by kernel_rfl] using e1
 have e2' : c = v2 := by simpa [show Try.prog.cellsOf 23 = 1 by kernel_rfl] using e2
 have e3' : d = v3 := by simpa [show Try.prog.cellsOf 24 = 1 by kernel_rfl] using e3
 subst e0' e1' e2' e3'
 exact ⟨⟨n, bs, fs, rs⟩, ⟨l1, l2, l3⟩, _, _, _, rfl, r0, r1, r2, r3⟩
end
section
variable {H : Type} {enc : TypeId × Value → H} {w : World} {base b0 : Nat} {spare : Nat → Bool} {held : Bool} {r : Reach} {v : Value} {d : DataW H} {p : List MemPlace}
theorem arg23 (hv : Value.okWide Try.prog w r b0 23 v) (h : DataW.Trod enc Try.prog w base spare held 23 v d p) : ∃ fs, FL0 w v fs ∧ fs.length ≤ 9223372036854775807 := by
 obtain ⟨A, n, c, rfl⟩ := okWide_slice Try.underlying23 hv
 obtain ⟨fuel, hf⟩ := h
 obtain ⟨v', fs, e, h1, h2⟩ := open23 hf
 have e' : [Value.slice A n c] = [v'] := e
 obtain rfl : Value.slice A n c = v' := (List.cons.inj e').1
 exact ⟨fs, h1, h2⟩
end
open Go.ChangeShapes Go.WideShapes Go.Deep
section
variable {H : Type} {enc : TypeId × Value → H} {w : World} {base b0 : Nat} {spare : Nat → Bool} {held : Bool} {fuel : Nat} {cs : List Value} {x : DataW H × List MemPlace} {r : Reach} {v : Value} {d : DataW H} {p : List MemPlace}
theorem open44 (h : DataW.trod enc Try.prog w base spare held fuel 44 cs = some x) : ∃ c, CG0 w (.agg cs.toArray) c := by
 obtain ⟨xs, n, _, _, hl, hxl, hf⟩ := DataW.trod_struct Try.underlying44 h
 have hl4 : cs.length = 4 := hl.trans (show Try.prog.cellsOf 44 = 4 by kernel_rfl)
 obtain ⟨a, b, c, d, rfl⟩ := list4 hl4
 obtain ⟨y0, y1, y2, y3, rfl⟩ := list4 (hxl.trans rfl)
 have h0 : _ = some y0 := hf 0 _ rfl
 have h1 : _ = some y1 := hf 1 _ rfl
 have h2 : _ = some y2 := hf 2 _ rfl
 have h3 : _ = some y3 := hf 3 _ rfl
 obtain ⟨n, e0, r0⟩ := open3 h0
 obtain ⟨v1, fs, e1, r1, l1⟩ := open23 h1
 obtain ⟨v2, gs, e2, r2, l2⟩ := open23 h2
 obtain ⟨v3, hs, e3, r3, l3⟩ := open23 h3
 have e0' : a = .int .i64 n := by simpa [show Try.prog.cellsOf 3 = 1 by kernel_rfl] using e0
 have e1' : b = v1 := by simpa [show Try.prog.cellsOf 23 = 1 by kernel_rfl] using e1
 have e2' : c = v2 := by simpa [show Try.prog.cellsOf 23 = 1 by kernel_rfl] using e2
 have e3' : d = v3 := by simpa [show Try.prog.cellsOf 23 = 1 by kernel_rfl] using e3
 subst e0' e1' e2' e3'
 exact ⟨⟨n, fs, gs, hs⟩, ⟨l1, l2, l3⟩, _, _, _, rfl, r0, r1, r2, r3⟩
end
open Go.ChangeShapes Go.WideShapes Go.Deep
section
variable {H : Type} {enc : TypeId × Value → H} {w : World} {base b0 : Nat} {spare : Nat → Bool} {held : Bool} {fuel : Nat} {cs : List Value} {x : DataW H × List MemPlace} {r : Reach} {v : Value} {d : DataW H} {p : List MemPlace}
theorem open27 (h : DataW.trod enc Try.prog w base spare held fuel 27 cs = some x) : ∃ v ns, cs = [v] ∧ IL w v ns ∧ ns.length ≤ 9223372036854775807 ∧ ∀ n ∈ ns, I64 n := by
 obtain ⟨v, ns, hv, hs, hl⟩ := open_sl (α := Int) (E := fun w vs n => I64 n ∧ vs = #[.int .i64 n]) (k := 1) Try.underlying27 (by kernel_rfl) (by decide) (fun n cs' y hy hlen => by
  obtain ⟨z, e, hw⟩ := open3 hy
  exact ⟨z, hw, by rw [e]⟩) h
 refine ⟨v, ns, hv, ?_, ml_le hl, ?_⟩
 ·obtain ⟨A, c, e, hc, hr⟩ := hs
  refine ⟨A, c, e, hc, fun hp => ?_⟩
  obtain ⟨g, o, hA, hg, he⟩ := hr hp
  refine ⟨g, o, hA, hg, fun j n hj => ?_⟩
  obtain ⟨vs, h1, h2, h3⟩ := he j n hj
  exact ⟨vs, h1, h2, h3.2⟩
 ·intro n hn
  obtain ⟨A, c, e, hc, hr⟩ := hs
  obtain ⟨j, hj⟩ := List.getElem?_of_mem hn
  obtain ⟨g, o, _, _, he⟩ := hr (by have := (List.getElem?_eq_some_iff.1 hj).1; omega)
  obtain ⟨vs, _, _, h3⟩ := he j n hj
  exact h3.1
end
open Go.ChangeShapes Go.WideShapes Go.Deep
section
variable {H : Type} {enc : TypeId × Value → H} {w : World} {base b0 : Nat} {spare : Nat → Bool} {held : Bool} {fuel : Nat} {cs : List Value} {x : DataW H × List MemPlace} {r : Reach} {v : Value} {d : DataW H} {p : List MemPlace}
theorem list7 {α : Type} {l : List α} (h : l.length = 7) : ∃ a b c d e f g, l = [a, b, c, d, e, f, g] := by
 match l, h with
 | [a, b, c, d, e, f, g], _ => exact ⟨a, b, c, d, e, f, g, rfl⟩
theorem open82 (h : DataW.trod enc Try.prog w base spare held fuel 82 cs = some x) : ∃ c, ECase0 w cs.toArray c := by
 obtain ⟨xs, n, _, _, hl, hxl, hf⟩ := DataW.trod_struct Try.underlying82 h
 have hl7 : cs.length = 7 := hl.trans (show Try.prog.cellsOf 82 = 7 by kernel_rfl)
 obtain ⟨a, b, c, d, e, f, g, rfl⟩ := list7 hl7
 obtain ⟨y0, y1, y2, y3, rfl⟩ := list4 (hxl.trans rfl)
 have h0 : _ = some y0 := hf 0 _ rfl
 have h1 : _ = some y1 := hf 1 _ rfl
 have h2 : _ = some y2 := hf 2 _ rfl
 have h3 : _ = some y3 := hf 3 _ rfl
 obtain ⟨n1, e1, r1⟩ := open3 h0
 obtain ⟨n2, e2, r2⟩ := open3 h1
 obtain ⟨n3, e3, r3⟩ := open3 h2
 obtain ⟨q, r4⟩ := open44 h3
 have e1' : a = .int .i64 n1 := by simpa [show Try.prog.cellsOf 3 = 1 by kernel_rfl] using e1
 have e2' : b = .int .i64 n2 := by simpa [show Try.prog.cellsOf 3 = 1 by kernel_rfl] using e2
 have e3' : c = .int .i64 n3 := by simpa [show Try.prog.cellsOf 3 = 1 by kernel_rfl] using e3
 subst e1' e2' e3'
 have e4 : (List.take (Try.prog.cellsOf 44) (List.drop 3 [.int .i64 n1, .int .i64 n2, .int .i64 n3, d, e, f, g])).toArray = #[d, e, f, g] := by simp [show Try.prog.cellsOf 44 = 4 by kernel_rfl]
 replace r4 : CG0 w (.agg #[d, e, f, g]) q := by rw [← e4]; exact r4
 have r4' := r4
 obtain ⟨_, v1, v2, v3, e5, _⟩ := r4'
 have e5' : d = .int .i64 q.kind ∧ e = v1 ∧ f = v2 ∧ g = v3 := by simpa using e5
 obtain ⟨rfl, rfl, rfl, rfl⟩ := e5'
 exact ⟨⟨n1, n2, n3, q⟩, _, _, _, rfl, ⟨r1, r2, r3⟩, r4⟩
theorem open54 (h : DataW.trod enc Try.prog w base spare held fuel 54 cs = some x) : ∃ v rs, cs = [v] ∧ CL0 w v rs ∧ rs.length ≤ 9223372036854775807 := by
 obtain ⟨v, fs, e, hs, hl⟩ := open_sl (E := ECase0) (k := 7) Try.underlying54 (by kernel_rfl) (by decide) (fun n cs' y hy _ => open82 hy) h
 exact ⟨v, fs, e, hs, ml_le hl⟩
theorem open56 (h : DataW.trod enc Try.prog w base spare held fuel 56 cs = some x) : ∃ t, TG0 w (.agg cs.toArray) t := by
 obtain ⟨xs, n, _, _, hl, hxl, hf⟩ := DataW.trod_struct Try.underlying56 h
 have hl4 : cs.length = 4 := hl.trans (show Try.prog.cellsOf 56 = 4 by kernel_rfl)
 obtain ⟨a, b, c, d, rfl⟩ := list4 hl4
 obtain ⟨y0, y1, y2, y3, rfl⟩ := list4 (hxl.trans rfl)
 have h0 : _ = some y0 := hf 0 _ rfl
 have h1 : _ = some y1 := hf 1 _ rfl
 have h2 : _ = some y2 := hf 2 _ rfl
 have h3 : _ = some y3 := hf 3 _ rfl
 obtain ⟨n, e0, r0⟩ := open3 h0
 obtain ⟨v1, fs, e1, r1, l1⟩ := open23 h1
 obtain ⟨v2, gs, e2, r2, l2⟩ := open23 h2
 obtain ⟨v3, rs, e3, r3, l3⟩ := open54 h3
 have e0' : a = .int .i64 n := by simpa [show Try.prog.cellsOf 3 = 1 by kernel_rfl] using e0
 have e1' : b = v1 := by simpa [show Try.prog.cellsOf 23 = 1 by kernel_rfl] using e1
 have e2' : c = v2 := by simpa [show Try.prog.cellsOf 23 = 1 by kernel_rfl] using e2
 have e3' : d = v3 := by simpa [show Try.prog.cellsOf 54 = 1 by kernel_rfl] using e3
 subst e0' e1' e2' e3'
 exact ⟨⟨n, fs, gs, rs⟩, ⟨l1, l2, l3⟩, _, _, _, rfl, r0, r1, r2, r3⟩
end
open Go.ChangeShapes Go.WideShapes Go.Deep
theorem list9 {α : Type} {l : List α} (h : l.length = 9) : ∃ a b c d e f g h i, l = [a, b, c, d, e, f, g, h, i] := by
 match l, h with
 | [a, b, c, d, e, f, g, h, i], _ => exact ⟨a, b, c, d, e, f, g, h, i, rfl⟩
section
variable {H : Type} {enc : TypeId × Value → H} {w : World} {base b0 : Nat} {spare : Nat → Bool} {held : Bool} {fuel : Nat} {cs : List Value} {x : DataW H × List MemPlace} {r : Reach} {v : Value} {d : DataW H} {p : List MemPlace}
theorem open58 (h : DataW.trod enc Try.prog w base spare held fuel 58 cs = some x) : ∃ q xs t, QG0 w (.agg cs.toArray) q xs t := by
 obtain ⟨xs, n, _, _, hl, hxl, hf⟩ := DataW.trod_struct Try.underlying58 h
 have hl9 : cs.length = 9 := hl.trans (show Try.prog.cellsOf 58 = 9 by kernel_rfl)
 obtain ⟨a, b, c, d, e, f, g, h', i, rfl⟩ := list9 hl9
 obtain ⟨y0, y1, y2, rfl⟩ := list3 (hxl.trans rfl)
 have h0 : _ = some y0 := hf 0 _ rfl
 have h1 : _ = some y1 := hf 1 _ rfl
 have h2 : _ = some y2 := hf 2 _ rfl
 obtain ⟨q, r0⟩ := open26 h0
 obtain ⟨v1, ns, e1, r1, l1, i1⟩ := open27 h1
 obtain ⟨t, r2⟩ := open56 h2
 have e0 : (List.take (Try.prog.cellsOf 26) (List.drop 0 [a, b, c, d, e, f, g, h', i])).toArray = #[a, b, c, d] := by simp [show Try.prog.cellsOf 26 = 4 by kernel_rfl]
 have e2 : (List.take (Try.prog.cellsOf 56) (List.drop 5 [a, b, c, d, e, f, g, h', i])).toArray = #[f, g, h', i] := by simp [show Try.prog.cellsOf 56 = 4 by kernel_rfl]
 have e1' : e = v1 := by simpa [show Try.prog.cellsOf 27 = 1 by kernel_rfl] using e1
 replace r0 : PG0 w (.agg #[a, b, c, d]) q := by rw [← e0]; exact r0
 replace r2 : TG0 w (.agg #[f, g, h', i]) t := by rw [← e2]; exact r2
 subst e1'
 exact ⟨q, ns, t, a, b, c, d, e, f, g, h', i, rfl, r0, r1, l1, i1, r2⟩
theorem arg58 (hv : Value.okWide Try.prog w r b0 58 v) (h : DataW.Trod enc Try.prog w base spare held 58 v d p) : ∃ q xs t, QG0 w v q xs t := by
 obtain ⟨cs, rfl, _⟩ := okWide_struct Try.underlying58 hv
 obtain ⟨fuel, hf⟩ := h
 obtain ⟨q, xs, t, hq⟩ := open58 hf
 have hq' : QG0 w (.agg cs.toList.toArray) q xs t := hq
 rw [Array.toArray_toList] at hq'
 exact ⟨q, xs, t, hq'⟩
end
end Go.Proofs.Ytfhambfgjigneaa

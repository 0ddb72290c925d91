/- Contracts of Go functions that the statement reaches, proved by walking their text, and plain laws over them (texts put together). -/
import Derived.Test.YtfhambfgjigneaaK10
import Derived.Test.YtfhambfgjigneaaK12
set_option linter.unusedVariables false
set_option linter.unusedSimpArgs false
namespace Go.Proofs.Ytfhambfgjigneaa
open Go.RowKit
open Go.ChangeShapes Go.WideShapes Go.Deep
section
variable {H : Type} {enc : TypeId × Value → H} {w : World} {base b0 : Nat} {spare : Nat → Bool} {held : Bool} {fuel : Nat} {cs : List Value} {x : DataW H × List MemPlace} {r : Reach} {v : Value} {d : DataW H} {p : List MemPlace}
theorem open44 (h : DataW.trod enc Try.prog w base spare held fuel 44 cs = some x) : ∃ c, CG0 w (.agg cs.toArray) c := by
  obtain ⟨xs, n, _, _, hl, hxl, hf⟩ := DataW.trod_struct Try.underlying44 h
  have hl4 : cs.length = 4 := hl.trans (show Try.prog.cellsOf 44 = 4 by kernel_rfl)
  obtain ⟨a, b, c, d, rfl⟩ := list4 hl4
  obtain ⟨y0, y1, y2, y3, rfl⟩ := list4 (hxl.trans rfl)
  have h0 : _ = some y0 := hf 0 _ rfl
  have h1 : _ = some y1 := hf 1 _ rfl
  have h2 : _ = some y2 := hf 2 _ rfl
  have h3 : _ = some y3 := hf 3 _ rfl
  obtain ⟨n, e0, r0⟩ := open3 h0
  obtain ⟨v1, fs, e1, r1, l1⟩ := open23 h1
  obtain ⟨v2, gs, e2, r2, l2⟩ := open23 h2
  obtain ⟨v3, hs, e3, r3, l3⟩ := open23 h3
  have e0' : a = .int .i64 n := by simpa [show Try.prog.cellsOf 3 = 1 by kernel_rfl] using e0
  have e1' : b = v1 := by simpa [show Try.prog.cellsOf 23 = 1 by kernel_rfl] using e1
  have e2' : c = v2 := by simpa [show Try.prog.cellsOf 23 = 1 by kernel_rfl] using e2
  have e3' : d = v3 := by simpa [show Try.prog.cellsOf 23 = 1 by kernel_rfl] using e3
  subst e0' e1' e2' e3'
  exact ⟨⟨n, fs, gs, hs⟩, ⟨l1, l2, l3⟩, _, _, _, rfl, r0, r1, r2, r3⟩
set_option maxRecDepth 100000 in
theorem arg44 (hv : Value.okWide Try.prog w r b0 44 v) (h : DataW.Trod enc Try.prog w base spare held 44 v d p) : ∃ q, CG0 w v q := by
  obtain ⟨cs, rfl, _⟩ := okWide_struct Try.underlying44 hv
  obtain ⟨fuel, hf⟩ := h
  obtain ⟨q, hq⟩ := open44 hf
  have hq' : CG0 w (.agg cs.toList.toArray) q := hq
  rw [Array.toArray_toList] at hq'
  exact ⟨q, hq'⟩
end
end Go.Proofs.Ytfhambfgjigneaa
